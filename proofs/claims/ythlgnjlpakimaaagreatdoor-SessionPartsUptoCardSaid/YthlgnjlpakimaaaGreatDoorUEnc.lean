/- Stamps, spans, writes, notes as trees; contracts of the elder kind, told as data. -/
import Derived.Test.YthlgnjlpakimaaaGreatDoorUAbsSimp
import Derived.Test.YthlgnjlpakimaaaGreatDoorProg
import Derived.Test.YthlgnjlpakimaaaGreatDoorUNoteSmall
set_option linter.all false
set_option linter.unnecessarySimpa false
set_option linter.unusedSimpArgs false
set_option linter.unusedVariables false
namespace Go.Proofs.YthlgnjlpakimaaaGreatDoor
open Go.ChangeShapes Go.WideShapes Go.ChangeAt Go.RowKit
@[go_sem] theorem D01:tyK Tryz.prog 3=some (0,1):=by kernel_rfl
@[go_sem] theorem Ci9:Sr Tryz.prog 3=some .i64:=by kernel_rfl
@[go_sem] theorem Cz9:tyZ Tryz.prog 3=some (0,[.int .i64 0]):=by kernel_rfl
@[go_sem] theorem D00:tyK Tryz.prog 4=some (0,1):=by kernel_rfl
@[go_sem] theorem Cz8:tyZ Tryz.prog 4=some (0,[.bool false]):=by kernel_rfl
@[go_sem] theorem Ci8:Sr Tryz.prog 5=some .u8:=by kernel_rfl
@[go_sem] theorem Ch1:Kt Tryz.prog 9=true:=by kernel_rfl
@[go_sem] theorem Ct1:tyK Tryz.prog 25=some (0,1):=by kernel_rfl
@[go_sem] theorem Ci1:Ep Tryz.prog 25=some (42,2,16):=by kernel_rfl
@[go_sem] theorem Cr4:tyZ Tryz.prog 25=some (0,[.slice none 0 0]):=by kernel_rfl
@[go_sem] theorem Ct0:tyK Tryz.prog 26=some (0,1):=by kernel_rfl
@[go_sem] theorem Ci0:Ep Tryz.prog 26=some (122,3,40):=by kernel_rfl
@[go_sem] theorem Cs9:tyK Tryz.prog 27=some (0,1):=by kernel_rfl
@[go_sem] theorem Ch9:Ep Tryz.prog 27=some (49,4,32):=by kernel_rfl
@[go_sem] theorem Cr3:tyZ Tryz.prog 27=some (0,[.slice none 0 0]):=by kernel_rfl
@[go_sem] theorem Cs8:tyK Tryz.prog 28=some (0,1):=by kernel_rfl
@[go_sem] theorem Ch8:Ep Tryz.prog 28=some (44,4,48):=by kernel_rfl
@[go_sem] theorem Cs7:tyK Tryz.prog 30=some (1,5):=by kernel_rfl
@[go_sem] theorem C57:tyF Tryz.prog 30 0=some (0,0,1):=by kernel_rfl
@[go_sem] theorem C56:tyF Tryz.prog 30 1=some (1,0,1):=by kernel_rfl
@[go_sem] theorem C55:tyF Tryz.prog 30 2=some (2,0,1):=by kernel_rfl
@[go_sem] theorem C54:tyF Tryz.prog 30 3=some (3,0,1):=by kernel_rfl
@[go_sem] theorem C53:tyF Tryz.prog 30 4=some (4,0,1):=by kernel_rfl
@[go_sem] theorem Ct8:Mx Tryz.prog 30=some ([.slice none 0 0,.slice none 0 0,.slice none 0 0,.slice none 0 0,.int .i64 0],[(0,1),(1,1),(2,1),(3,1),(4,1)]):=by kernel_rfl
@[go_sem] theorem C23:Sr Tryz.prog 34=some .u64:=by kernel_rfl
@[go_sem] theorem Cs6:tyK Tryz.prog 35=some (0,1):=by kernel_rfl
@[go_sem] theorem Ch7:Ep Tryz.prog 35=some (66,2,16):=by kernel_rfl
@[go_sem] theorem Cr2:tyZ Tryz.prog 35=some (0,[.slice none 0 0]):=by kernel_rfl
@[go_sem] theorem Cs5:tyK Tryz.prog 37=some (1,4):=by kernel_rfl
@[go_sem] theorem C52:tyF Tryz.prog 37 0=some (0,0,1):=by kernel_rfl
@[go_sem] theorem C51:tyF Tryz.prog 37 1=some (1,0,1):=by kernel_rfl
@[go_sem] theorem C50:tyF Tryz.prog 37 2=some (2,0,1):=by kernel_rfl
@[go_sem] theorem C49:tyF Tryz.prog 37 3=some (3,0,1):=by kernel_rfl
@[go_sem] theorem Ct7:Mx Tryz.prog 37=some ([.slice none 0 0,.slice none 0 0,.slice none 0 0,.slice none 0 0],[(0,1),(1,1),(2,1),(3,1)]):=by kernel_rfl
@[go_sem] theorem Cr1:tyZ Tryz.prog 37=some (1,[.slice none 0 0,.slice none 0 0,.slice none 0 0,.slice none 0 0]):=by kernel_rfl
@[go_sem] theorem Cs4:tyK Tryz.prog 38=some (0,1):=by kernel_rfl
@[go_sem] theorem Ch6:Ep Tryz.prog 38=some (5,1,1):=by kernel_rfl
@[go_sem] theorem C58:Ss Tryz.prog 38=true:=by kernel_rfl
@[go_sem] theorem Cs3:tyK Tryz.prog 42=some (1,2):=by kernel_rfl
@[go_sem] theorem Ct6:Mx Tryz.prog 42=some ([.int .i64 0,.int .i64 0],[(0,1),(1,1)]):=by kernel_rfl
@[go_sem] theorem Cs2:tyK Tryz.prog 44=some (1,4):=by kernel_rfl
@[go_sem] theorem C48:tyF Tryz.prog 44 0=some (0,0,1):=by kernel_rfl
@[go_sem] theorem C47:tyF Tryz.prog 44 1=some (1,1,2):=by kernel_rfl
@[go_sem] theorem C46:tyF Tryz.prog 44 2=some (3,0,1):=by kernel_rfl
@[go_sem] theorem Cr0:tyZ Tryz.prog 44=some (1,[.int .i64 0,.int .i64 0,.int .i64 0,.slice none 0 0]):=by kernel_rfl
@[go_sem] theorem Cs1:tyK Tryz.prog 49=some (1,4):=by kernel_rfl
@[go_sem] theorem C45:tyF Tryz.prog 49 0=some (0,1,2):=by kernel_rfl
@[go_sem] theorem C44:tyF Tryz.prog 49 1=some (2,0,1):=by kernel_rfl
@[go_sem] theorem C43:tyF Tryz.prog 49 2=some (3,0,1):=by kernel_rfl
@[go_sem] theorem Ct5:Mx Tryz.prog 49=some ([.int .i64 0,.int .i64 0,.int .i64 0,.bool false],[(0,2),(2,1),(3,1)]):=by kernel_rfl
@[go_sem] theorem Cq9:tyZ Tryz.prog 49=some (1,[.int .i64 0,.int .i64 0,.int .i64 0,.bool false]):=by kernel_rfl
@[go_sem] theorem Cs0:tyK Tryz.prog 60=some (0,1):=by kernel_rfl
@[go_sem] theorem Ch5:Ep Tryz.prog 60=some (37,4,96):=by kernel_rfl
@[go_sem] theorem Cq8:tyZ Tryz.prog 60=some (0,[.slice none 0 0]):=by kernel_rfl
@[go_sem] theorem Cr9:tyK Tryz.prog 62=some (1,3):=by kernel_rfl
@[go_sem] theorem C42:tyF Tryz.prog 62 0=some (0,0,1):=by kernel_rfl
@[go_sem] theorem C41:tyF Tryz.prog 62 1=some (1,0,1):=by kernel_rfl
@[go_sem] theorem C40:tyF Tryz.prog 62 2=some (2,0,1):=by kernel_rfl
@[go_sem] theorem Cr8:tyK Tryz.prog 66=some (1,2):=by kernel_rfl
@[go_sem] theorem C39:tyF Tryz.prog 66 0=some (0,0,1):=by kernel_rfl
@[go_sem] theorem C38:tyF Tryz.prog 66 1=some (1,0,1):=by kernel_rfl
@[go_sem] theorem Ct4:Mx Tryz.prog 66=some ([.int .i64 0,.int .i64 0],[(0,1),(1,1)]):=by kernel_rfl
@[go_sem] theorem Cq7:tyZ Tryz.prog 66=some (1,[.int .i64 0,.int .i64 0]):=by kernel_rfl
@[go_sem] theorem Ch4:Ep Tryz.prog 80=some (94,5,56):=by kernel_rfl
@[go_sem] theorem Ch3:Ep Tryz.prog 82=some (89,12,160):=by kernel_rfl
@[go_sem] theorem Cr7:tyK Tryz.prog 89=some (1,12):=by kernel_rfl
@[go_sem] theorem C37:tyF Tryz.prog 89 0=some (0,0,1):=by kernel_rfl
@[go_sem] theorem C36:tyF Tryz.prog 89 1=some (1,0,1):=by kernel_rfl
@[go_sem] theorem C35:tyF Tryz.prog 89 2=some (2,0,1):=by kernel_rfl
@[go_sem] theorem C34:tyF Tryz.prog 89 3=some (3,0,1):=by kernel_rfl
@[go_sem] theorem C33:tyF Tryz.prog 89 4=some (4,0,1):=by kernel_rfl
@[go_sem] theorem C32:tyF Tryz.prog 89 5=some (5,0,1):=by kernel_rfl
@[go_sem] theorem C31:tyF Tryz.prog 89 6=some (6,0,1):=by kernel_rfl
@[go_sem] theorem C30:tyF Tryz.prog 89 7=some (7,0,1):=by kernel_rfl
@[go_sem] theorem C29:tyF Tryz.prog 89 8=some (8,1,4):=by kernel_rfl
@[go_sem] theorem Ct3:Mx Tryz.prog 89=some ([.int .i64 0,.int .i64 0,.int .i64 0,.int .i64 0,.int .i64 0,.slice none 0 0,.slice none 0 0,.slice none 0 0,.int .i64 0,.int .i64 0,.int .i64 0,.slice none 0 0],[(0,1),(1,1),(2,1),(3,1),(4,1),(5,1),(6,1),(7,1),(8,4)]):=by kernel_rfl
@[go_sem] theorem Cq6:tyZ Tryz.prog 89=some (1,[.int .i64 0,.int .i64 0,.int .i64 0,.int .i64 0,.int .i64 0,.slice none 0 0,.slice none 0 0,.slice none 0 0,.int .i64 0,.int .i64 0,.int .i64 0,.slice none 0 0]):=by kernel_rfl
@[go_sem] theorem Cr6:tyK Tryz.prog 94=some (1,5):=by kernel_rfl
@[go_sem] theorem C28:tyF Tryz.prog 94 0=some (0,0,1):=by kernel_rfl
@[go_sem] theorem C27:tyF Tryz.prog 94 1=some (1,0,1):=by kernel_rfl
@[go_sem] theorem C26:tyF Tryz.prog 94 2=some (2,0,1):=by kernel_rfl
@[go_sem] theorem C25:tyF Tryz.prog 94 3=some (3,0,1):=by kernel_rfl
@[go_sem] theorem C24:tyF Tryz.prog 94 4=some (4,0,1):=by kernel_rfl
@[go_sem] theorem Ct2:Mx Tryz.prog 94=some ([.int .i64 0,.int .i64 0,.slice none 0 0,.int .i64 0,.int .i64 0],[(0,1),(1,1),(2,1),(3,1),(4,1)]):=by kernel_rfl
@[go_sem] theorem Cq5:tyZ Tryz.prog 94=some (1,[.int .i64 0,.int .i64 0,.slice none 0 0,.int .i64 0,.int .i64 0]):=by kernel_rfl
@[go_sem] theorem Cr5:tyK Tryz.prog 99=some (2,256):=by kernel_rfl
@[go_sem] theorem Ch2:Ep Tryz.prog 99=none:=by kernel_rfl
@[go_sem] theorem Cj2:Wb Tryz.prog 99=some (256,0,1):=by kernel_rfl
@[go_sem] theorem Cq4:tyZ Tryz.prog 99=some (2,rep 256 (.bool false)):=by kernel_rfl
@[go_sem] theorem Ci7:tyK Tryz.prog 122=some (1,3):=by kernel_rfl
@[go_sem] theorem Bu4:tyF Tryz.prog 122 0=some (0,1,2):=by kernel_rfl
@[go_sem] theorem Bu3:tyF Tryz.prog 122 1=some (2,0,1):=by kernel_rfl
@[go_sem] theorem Ch0:tyZ Tryz.prog 122=some (1,[.int .i64 0,.int .i64 0,.slice none 0 0]):=by kernel_rfl
@[go_sem] theorem C21:Ep Tryz.prog 147=some (25,1,24):=by kernel_rfl
@[go_sem] theorem C22:U5 Tryz.prog 171=some (.i64,.bool false):=by kernel_rfl
@[go_sem] theorem Ci6:tyK Tryz.prog 191=some (2,64):=by kernel_rfl
@[go_sem] theorem C20:Ep Tryz.prog 191=none:=by kernel_rfl
@[go_sem] theorem C61:Wb Tryz.prog 191=some (64,0,1):=by kernel_rfl
@[go_sem] theorem Cg9:tyZ Tryz.prog 191=some (2,rep 64 (.int .i64 0)):=by kernel_rfl
@[go_sem] theorem Ci5:tyK Tryz.prog 211=some (0,1):=by kernel_rfl
@[go_sem] theorem C19:Ep Tryz.prog 220=none:=by kernel_rfl
@[go_sem] theorem C60:Wb Tryz.prog 220=some (2,0,1):=by kernel_rfl
@[go_sem] theorem Cj1:Mx Tryz.prog 220=some ([.int .i64 0,.int .i64 0],[(0,1),(1,1)]):=by kernel_rfl
@[go_sem] theorem Ci4:tyK Tryz.prog 221=some (2,4):=by kernel_rfl
@[go_sem] theorem C18:Ep Tryz.prog 221=none:=by kernel_rfl
@[go_sem] theorem C59:Wb Tryz.prog 221=some (2,2,2):=by kernel_rfl
@[go_sem] theorem Cj0:Mx Tryz.prog 221=some ([.int .i64 0,.int .i64 0,.int .i64 0,.int .i64 0],[(0,2),(2,2)]):=by kernel_rfl
@[go_sem] theorem Cg8:tyZ Tryz.prog 221=some (2,[.int .i64 0,.int .i64 0,.int .i64 0,.int .i64 0]):=by kernel_rfl
@[go_sem] theorem Ci3:tyK Tryz.prog 223=some (0,1):=by kernel_rfl
@[go_sem] theorem Bu2:tyF Tryz.prog 225 0=some (0,2,64):=by kernel_rfl
@[go_sem] theorem Bu1:tyF Tryz.prog 225 1=some (64,0,1):=by kernel_rfl
@[go_sem] theorem Cg7:tyZ Tryz.prog 225=some (1,rep 64 (.int .i64 0)++[.int .u64 0]):=by kernel_rfl
@[go_sem] theorem C17:Ep Tryz.prog 229=some (35,1,24):=by kernel_rfl
@[go_sem] theorem C16:Ep Tryz.prog 230=some (3,1,8):=by kernel_rfl
@[go_sem] theorem C15:Ep Tryz.prog 243=some (27,1,24):=by kernel_rfl
@[go_sem] theorem Ci2:tyK Tryz.prog 246=some (0,1):=by kernel_rfl
def Yn (s:Ab):List IV:=[.val (.int .i64 s.count),.val (.int .i64 s.node)]
def L2 (s:Ad):List IV:=[.val (.int .i64 s.lo),.val (.int .i64 s.hi)]
def enW (y:Aq):List IV:=[.val (.int .i64 y.stamp.count),.val (.int .i64 y.stamp.node),.val (.int .i64 y.object),.val (.bool y.gone)]
def stI (l:List Ab):IV:=.sl 2 (l.map Yn)
def spI (l:List Ad):IV:=.sl 2 (l.map L2)
def wrI (l:List Aq):IV:=.sl 4 (l.map enW)
def enN (x:B7):List IV:=[stI x.start,stI x.end_,spI x.blur,wrI x.writes]
def noI (l:List B7):IV:=.sl 4 (l.map enN)
def stA (l:List Ab):AV:=.iv (stI l)
def spA (l:List Ad):AV:=.iv (spI l)
def Et (x:B7):AV:=.agg [.iv (stI x.start),.iv (stI x.end_),.iv (spI x.blur),.iv (wrI x.writes)]
theorem Aw9 (s:Ad):L2 s=[.val (.int .i64 s.lo),.val (.int .i64 s.hi)]:=rfl
theorem Ei (y:Aq):enW y=[.val (.int .i64 y.stamp.count),.val (.int .i64 y.stamp.node),.val (.int .i64 y.object),.val (.bool y.gone)]:=rfl
theorem Kq (x:B7):enN x=[stI x.start,stI x.end_,spI x.blur,wrI x.writes]:=rfl
section
variable {X : World} {v : Value}
theorem U8 {cs:List Value} {s:Ab} (h:Fu cs s):Bl X cs (Yn s):=by
 obtain ⟨rfl,h1,h2⟩:=h;exact ⟨.val h1,.val h2,trivial⟩
theorem Bp1 {cs:List Value} {s:Ab} (h:Bl X cs (Yn s)):Fu cs s:=by
 match cs,h with
 | [a,b],⟨h1,h2,_⟩=>cases h1 with | val i1=>cases h2 with | val i2=>exact ⟨rfl,i1,i2⟩
theorem Mo {cs:List Value} {s:Ad} (h:Df cs s):Bl X cs (L2 s):=by
 obtain ⟨rfl,h1,h2⟩:=h;exact ⟨.val h1,.val h2,trivial⟩
theorem Bp2 {cs:List Value} {s:Ad} (h:Bl X cs (L2 s)):Df cs s:=by
 match cs,h with
 | [a,b],⟨h1,h2,_⟩=>cases h1 with | val i1=>cases h2 with | val i2=>exact ⟨rfl,i1,i2⟩
theorem Bk2 {cs:List Value} {s:Aq} (h:Sh cs s):Bl X cs (enW s):=by
 obtain ⟨rfl,h1,h2,h3⟩:=h;exact ⟨.val h1,.val h2,.val h3,.val trivial,trivial⟩
theorem C78 {cs:List Value} {s:Aq} (h:Bl X cs (enW s)):Sh cs s:=by
 match cs,h with
 | [a,b,c,d],⟨h1,h2,h3,h4,_⟩=>cases h1 with | val i1=>cases h2 with | val i2=>cases h3 with | val i3=>cases h4 with | val i4=>exact ⟨rfl,i1,i2,i3⟩
theorem Cs.stamps {l:List Ab} (h:Cs X v (stI l)):C0 X X.heap.size v l:=h.to_typed fun _ _ _ h=>Bp1 h
theorem Cs.spans {l:List Ad} (h:Cs X v (spI l)):Co X X.heap.size v l:=h.to_typed fun _ _ _ h=>Bp2 h
theorem Cs.writes {l:List Aq} (h:Cs X v (wrI l)):M1 X X.heap.size v l:=h.to_typed fun _ _ _ h=>C78 h
theorem Lm {l:List Ab} {B:Nat} (h:C0 X B v l) (hB:B<=X.heap.size):Cs X v (stI l):=Cs.of_typed (fun _ _ h=>U8 h) h hB
theorem U9 {l:List Ad} {B:Nat} (h:Co X B v l) (hB:B<=X.heap.size):Cs X v (spI l):=Cs.of_typed (fun _ _ h=>Mo h) h hB
theorem X6 {l:List Aq} {B:Nat} (h:M1 X B v l) (hB:B<=X.heap.size):Cs X v (wrI l):=Cs.of_typed (fun _ _ h=>Bk2 h) h hB
theorem N1 {E:Env} {w:World} (he:Ext X w) {x:B7} (h:Bb E X v (Et x)):∃ v0 v1 v2 v3,v=.agg #[v0,v1,v2,v3]/\Pm w w.heap.size v0 v1 v2 v3 x:=by
 cases h with
 | @agg vs _ h1 h2 =>
  obtain ⟨l⟩:=vs
  match l,h1 with
  | [v0,v1,v2,v3],_ =>
   have a0:=h2 0 v0 _ rfl rfl
   have a1:=h2 1 v1 _ rfl rfl
   have a2:=h2 2 v2 _ rfl rfl
   have a3:=h2 3 v3 _ rfl rfl
   cases a0 with | iv a0=>cases a1 with | iv a1=>cases a2 with | iv a2=>cases a3 with | iv a3 =>
   exact ⟨v0,v1,v2,v3,rfl,a0.stamps.ext (fun _ _ h=>h) he,a1.stamps.ext (fun _ _ h=>h) he,a2.spans.ext (fun _ _ h=>h) he,a3.writes.ext (fun _ _ h=>h) he⟩
theorem Bu.map_ {α β:Type} {R:List Value->α->Prop} {R':List Value->β->Prop} {f:α->β} {k:Nat} (hR:∀ cs x,R cs x->R' cs (f x)):∀ {xs:List Value} {l:List α},Bu R k xs l->Bu R' k xs (l.map f)
 | _,[],h=>h
 | _,_ :: _,⟨cs,rest,e,hk,h1,h⟩=>⟨cs,rest,e,hk,hR _ _ h1,Bu.map_ hR h⟩
theorem Ae.map_ {α β:Type} {R:List Value->α->Prop} {R':List Value->β->Prop} {f:α->β} {k:Nat} {w:World} {base:Nat} {e:TypeId} {l:List α} (hR:∀ cs x,R cs x->R' cs (f x)) (h:Ae R k w base e v l):Ae R' k w base e v (l.map f):=by
 obtain ⟨xs,h1,h2,h3⟩:=h
 exact ⟨xs,by rw [List.length_map];exact h1,h2.map_ hR,by rw [List.length_map];exact h3⟩
end
section
variable {P : Program} {G : World -> Prop} {f : FuncId} {fn : Func} {c : Code}
theorem Tt (hf : P.funcs[f]? = some fn) (hb : fn.body = some c) (hname : (fn.name == "runtime.NumGoroutine") = false) (vs : Array Value) (w : World) : (callFunc f vs).run P w = .ok (.enter f vs) w := by
 have hname' : ¬ fn.name = "runtime.NumGoroutine" := by simpa using hname
 simp [callFunc,program,Sem.run,hf,hname',hb]
theorem At8 {args : List AV} {r : AV} (hf : P.funcs[f]? = some fn) (hb : fn.body = some c) (hname : (fn.name == "runtime.NumGoroutine") = false)
  (h:∀ (V w:World) (E:Env) (vs:Array Value),Ext V w->G w->At E V vs.toList args->Calls P f vs w fun e w'=>∃ v,e=.returned v/\Below w.heap.size w w'/\Bb E (vis V w w' []) v r):A7 P G f args r [] :=
 ⟨Tt hf hb hname,fun V w E vs hV hG hr=>(h V w E vs hV hG hr).mono fun _ w' ⟨v,he,hb,hv⟩=>⟨v,E,he,hb,List.nodup_nil,fun _ h=>(by cases h),fun _ h=>(by cases h),hv⟩⟩
theorem Fy {E:Env} {V:World} {vs:Array Value} {a:AV} (h:At E V vs.toList [a]):∃ v,vs=#[v]/\Bb E V v a:=by
 obtain ⟨v,vs',h1,h2,h3⟩:=At.cons_iff.1 h
 rw [At.nil_iff] at h3
 subst h3
 exact ⟨v,by rw [<-Array.toArray_toList (xs:=vs),h1],h2⟩
theorem J4 {E:Env} {V:World} {vs:Array Value} {a b:AV} (h:At E V vs.toList [a,b]):∃ v u,vs=#[v,u]/\Bb E V v a/\Bb E V u b:=by
 obtain ⟨v,vs',h1,h2,h3⟩:=At.cons_iff.1 h
 obtain ⟨u,vs2,rfl,h4,h5⟩:=At.cons_iff.1 h3
 rw [At.nil_iff] at h5
 subst h5
 exact ⟨v,u,by rw [<-Array.toArray_toList (xs:=vs),h1],h2,h4⟩
theorem Ch {E:Env} {V w:World} {v:Value} {l:List Ab} (hV:Ext V w) (h:Bb E V v (.iv (stI l))):C0 w w.heap.size v l:=by
 cases h with | iv h=>exact h.stamps.ext (fun _ _ h=>h) hV
theorem Ec {E:Env} {V w:World} {v:Value} {l:List Ad} (hV:Ext V w) (h:Bb E V v (.iv (spI l))):Co w w.heap.size v l:=by
 cases h with | iv h=>exact h.spans.ext (fun _ _ h=>h) hV
theorem B38 {E:Env} {V w:World} {v:Value} {l:List Aq} (hV:Ext V w) (h:Bb E V v (.iv (wrI l))):M1 w w.heap.size v l:=by
 cases h with | iv h=>exact h.writes.ext (fun _ _ h=>h) hV
theorem Bq {args : List AV} {v : Value} (hf : P.funcs[f]? = some fn) (hb : fn.body = some c) (hname : (fn.name == "runtime.NumGoroutine") = false)
  (h:∀ (V w:World) (E:Env) (vs:Array Value),Ext V w->G w->At E V vs.toList args->Calls P f vs w fun e w'=>e=.returned v/\Below w.heap.size w w'):A7 P G f args (.val v) [] :=
 ⟨Tt hf hb hname,fun V w E vs hV hG hr=>(h V w E vs hV hG hr).mono fun _ w' ⟨he,hb⟩=>⟨v,E,he,hb,List.nodup_nil,fun _ h=>(by cases h),fun _ h=>(by cases h),.val⟩⟩
theorem Cx {α : Type} {R : List Value -> α -> Prop} {enc : α -> List IV} {k T : Nat} {l : List α} (hR : ∀ X cs x, R cs x -> Bl X cs (enc x)) {args : List AV} (hf : P.funcs[f]? = some fn) (hb : fn.body = some c) (hname : (fn.name == "runtime.NumGoroutine") = false)
  (h:∀ (V w:World) (E:Env) (vs:Array Value),Ext V w->G w->At E V vs.toList args->Calls P f vs w fun e w'=>(∃ v,e=.returned v/\Ae R k w' w.heap.size T v l)/\Below w.heap.size w w'):A7 P G f args (.own 0) [.row 0 T k (l.map enc)] :=
 ⟨Tt hf hb hname,fun V w E vs hV hG hr=>(h V w E vs hV hG hr).mono fun _ w' ⟨⟨v,he,hO⟩,hb⟩=>by
  obtain ⟨A,cc,hv⟩:=hO.form
  have ho:Ac ⟨fun _=>(v.ownBlock).getD 0,fun _=>v⟩ [.row 0 T k (l.map enc)]=v.ownBlock.toList:=by simp [Ac,BA.owned]
  refine ⟨v,⟨fun _=>(v.ownBlock).getD 0,fun _=>v⟩,he,hb,by rw [ho];cases v.ownBlock<;>simp,fun g hg=>by rw [ho,Option.mem_toList] at hg;exact (hO.lt g hg).1,fun b hb'=>?_,?_⟩
  ·simp only [List.mem_singleton] at hb'
   subst hb'
   exact ⟨hO.map_ fun cs x h=>hR _ cs x h,fun g hg=>by simp [hg]⟩
  ·rw [hv]
   exact .own rfl⟩
end
end Go.Proofs.YthlgnjlpakimaaaGreatDoor
