/- Stamps, spans, writes, notes as trees; contracts of the elder kind, told as data. -/
import Derived.Test.YthlgnjlpakimaaaGreatDoorVAbsSimp
import Derived.Test.YthlgnjlpakimaaaGreatDoorProg
import Derived.Test.YthlgnjlpakimaaaGreatDoorVNoteSmall
set_option linter.all false
set_option linter.unnecessarySimpa false
set_option linter.unusedSimpArgs false
set_option linter.unusedVariables false
namespace Go.Proofs.YthlgnjlpakimaaaGreatDoor
open Go.ChangeShapes Go.WideShapes Go.ChangeAt Go.RowKit
@[go_sem] theorem D81:tyK Tryz.prog 3=some (0,1):=by kernel_rfl
@[go_sem] theorem Cq2:V4 Tryz.prog 3=some .i64:=by kernel_rfl
@[go_sem] theorem D79:tyZ Tryz.prog 3=some (0,[.int .i64 0]):=by kernel_rfl
@[go_sem] theorem D80:tyK Tryz.prog 4=some (0,1):=by kernel_rfl
@[go_sem] theorem D78:tyZ Tryz.prog 4=some (0,[.bool false]):=by kernel_rfl
@[go_sem] theorem Cq1:V4 Tryz.prog 5=some .u8:=by kernel_rfl
@[go_sem] theorem D77:tyZ Tryz.prog 5=some (0,[.int .u8 0]):=by kernel_rfl
@[go_sem] theorem D04:tyK Tryz.prog 25=some (0,1):=by kernel_rfl
@[go_sem] theorem Cp3:Fw Tryz.prog 25=some (42,2,16):=by kernel_rfl
@[go_sem] theorem Cy9:tyZ Tryz.prog 25=some (0,[.slice none 0 0]):=by kernel_rfl
@[go_sem] theorem D03:tyK Tryz.prog 26=some (0,1):=by kernel_rfl
@[go_sem] theorem Cp2:Fw Tryz.prog 26=some (122,3,40):=by kernel_rfl
@[go_sem] theorem Cy8:tyZ Tryz.prog 26=some (0,[.slice none 0 0]):=by kernel_rfl
@[go_sem] theorem D02:tyK Tryz.prog 27=some (0,1):=by kernel_rfl
@[go_sem] theorem Cp1:Fw Tryz.prog 27=some (49,4,32):=by kernel_rfl
@[go_sem] theorem Cy7:tyZ Tryz.prog 27=some (0,[.slice none 0 0]):=by kernel_rfl
@[go_sem] theorem D01:tyK Tryz.prog 28=some (0,1):=by kernel_rfl
@[go_sem] theorem Cp0:Fw Tryz.prog 28=some (44,4,48):=by kernel_rfl
@[go_sem] theorem D00:tyK Tryz.prog 30=some (1,5):=by kernel_rfl
@[go_sem] theorem Cd0:tyF Tryz.prog 30 0=some (0,0,1):=by kernel_rfl
@[go_sem] theorem Cc9:tyF Tryz.prog 30 1=some (1,0,1):=by kernel_rfl
@[go_sem] theorem Cc8:tyF Tryz.prog 30 2=some (2,0,1):=by kernel_rfl
@[go_sem] theorem Cc7:tyF Tryz.prog 30 3=some (3,0,1):=by kernel_rfl
@[go_sem] theorem Cc6:tyF Tryz.prog 30 4=some (4,0,1):=by kernel_rfl
@[go_sem] theorem D11:N5 Tryz.prog 30=some ([.slice none 0 0,.slice none 0 0,.slice none 0 0,.slice none 0 0,.int .i64 0],[(0,1),(1,1),(2,1),(3,1),(4,1)]):=by kernel_rfl
@[go_sem] theorem Cy6:tyZ Tryz.prog 30=some (1,[.slice none 0 0,.slice none 0 0,.slice none 0 0,.slice none 0 0,.int .i64 0]):=by kernel_rfl
@[go_sem] theorem Ca8:V4 Tryz.prog 34=some .u64:=by kernel_rfl
@[go_sem] theorem Cz9:tyK Tryz.prog 35=some (0,1):=by kernel_rfl
@[go_sem] theorem Co9:Fw Tryz.prog 35=some (66,2,16):=by kernel_rfl
@[go_sem] theorem Cy5:tyZ Tryz.prog 35=some (0,[.slice none 0 0]):=by kernel_rfl
@[go_sem] theorem Cz8:tyK Tryz.prog 37=some (1,4):=by kernel_rfl
@[go_sem] theorem Cc5:tyF Tryz.prog 37 0=some (0,0,1):=by kernel_rfl
@[go_sem] theorem Cc4:tyF Tryz.prog 37 1=some (1,0,1):=by kernel_rfl
@[go_sem] theorem Cc3:tyF Tryz.prog 37 2=some (2,0,1):=by kernel_rfl
@[go_sem] theorem Cc2:tyF Tryz.prog 37 3=some (3,0,1):=by kernel_rfl
@[go_sem] theorem D10:N5 Tryz.prog 37=some ([.slice none 0 0,.slice none 0 0,.slice none 0 0,.slice none 0 0],[(0,1),(1,1),(2,1),(3,1)]):=by kernel_rfl
@[go_sem] theorem Cy4:tyZ Tryz.prog 37=some (1,[.slice none 0 0,.slice none 0 0,.slice none 0 0,.slice none 0 0]):=by kernel_rfl
@[go_sem] theorem Cz7:tyK Tryz.prog 38=some (0,1):=by kernel_rfl
@[go_sem] theorem Co8:Fw Tryz.prog 38=some (5,1,1):=by kernel_rfl
@[go_sem] theorem Cz6:tyK Tryz.prog 42=some (1,2):=by kernel_rfl
@[go_sem] theorem D09:N5 Tryz.prog 42=some ([.int .i64 0,.int .i64 0],[(0,1),(1,1)]):=by kernel_rfl
@[go_sem] theorem Cy3:tyZ Tryz.prog 42=some (1,[.int .i64 0,.int .i64 0]):=by kernel_rfl
@[go_sem] theorem Cz5:tyK Tryz.prog 44=some (1,4):=by kernel_rfl
@[go_sem] theorem Cc1:tyF Tryz.prog 44 0=some (0,0,1):=by kernel_rfl
@[go_sem] theorem Cc0:tyF Tryz.prog 44 1=some (1,1,2):=by kernel_rfl
@[go_sem] theorem Cb9:tyF Tryz.prog 44 2=some (3,0,1):=by kernel_rfl
@[go_sem] theorem D08:N5 Tryz.prog 44=some ([.int .i64 0,.int .i64 0,.int .i64 0,.slice none 0 0],[(0,1),(1,2),(3,1)]):=by kernel_rfl
@[go_sem] theorem Cy2:tyZ Tryz.prog 44=some (1,[.int .i64 0,.int .i64 0,.int .i64 0,.slice none 0 0]):=by kernel_rfl
@[go_sem] theorem Cz4:tyK Tryz.prog 49=some (1,4):=by kernel_rfl
@[go_sem] theorem Cb8:tyF Tryz.prog 49 0=some (0,1,2):=by kernel_rfl
@[go_sem] theorem Cb7:tyF Tryz.prog 49 1=some (2,0,1):=by kernel_rfl
@[go_sem] theorem Cb6:tyF Tryz.prog 49 2=some (3,0,1):=by kernel_rfl
@[go_sem] theorem D07:N5 Tryz.prog 49=some ([.int .i64 0,.int .i64 0,.int .i64 0,.bool false],[(0,2),(2,1),(3,1)]):=by kernel_rfl
@[go_sem] theorem Cy1:tyZ Tryz.prog 49=some (1,[.int .i64 0,.int .i64 0,.int .i64 0,.bool false]):=by kernel_rfl
@[go_sem] theorem Cz3:tyK Tryz.prog 60=some (0,1):=by kernel_rfl
@[go_sem] theorem Co7:Fw Tryz.prog 60=some (37,4,96):=by kernel_rfl
@[go_sem] theorem Cy0:tyZ Tryz.prog 60=some (0,[.slice none 0 0]):=by kernel_rfl
@[go_sem] theorem Cz2:tyK Tryz.prog 62=some (1,3):=by kernel_rfl
@[go_sem] theorem Cb5:tyF Tryz.prog 62 0=some (0,0,1):=by kernel_rfl
@[go_sem] theorem Cb4:tyF Tryz.prog 62 1=some (1,0,1):=by kernel_rfl
@[go_sem] theorem Cb3:tyF Tryz.prog 62 2=some (2,0,1):=by kernel_rfl
@[go_sem] theorem D06:N5 Tryz.prog 62=some ([.slice none 0 0,.slice none 0 0,.int .i64 0],[(0,1),(1,1),(2,1)]):=by kernel_rfl
@[go_sem] theorem Cx9:tyZ Tryz.prog 62=some (1,[.slice none 0 0,.slice none 0 0,.int .i64 0]):=by kernel_rfl
@[go_sem] theorem Cb2:tyF Tryz.prog 64 0=some (0,0,1):=by kernel_rfl
@[go_sem] theorem Cb1:tyF Tryz.prog 64 1=some (1,0,1):=by kernel_rfl
@[go_sem] theorem Cz1:tyK Tryz.prog 66=some (1,2):=by kernel_rfl
@[go_sem] theorem Cb0:tyF Tryz.prog 66 0=some (0,0,1):=by kernel_rfl
@[go_sem] theorem Ca9:tyF Tryz.prog 66 1=some (1,0,1):=by kernel_rfl
@[go_sem] theorem D05:N5 Tryz.prog 66=some ([.int .i64 0,.int .i64 0],[(0,1),(1,1)]):=by kernel_rfl
@[go_sem] theorem Cx8:tyZ Tryz.prog 66=some (1,[.int .i64 0,.int .i64 0]):=by kernel_rfl
@[go_sem] theorem Cz0:tyK Tryz.prog 99=some (2,256):=by kernel_rfl
@[go_sem] theorem Co6:Fw Tryz.prog 99=none:=by kernel_rfl
@[go_sem] theorem Cq6:Yo Tryz.prog 99=some (256,0,1):=by kernel_rfl
@[go_sem] theorem Cx7:tyZ Tryz.prog 99=some (2,rep 256 (.bool false)):=by kernel_rfl
@[go_sem] theorem Cq0:tyK Tryz.prog 122=some (1,3):=by kernel_rfl
@[go_sem] theorem C28:tyF Tryz.prog 122 0=some (0,1,2):=by kernel_rfl
@[go_sem] theorem C27:tyF Tryz.prog 122 1=some (2,0,1):=by kernel_rfl
@[go_sem] theorem Cq5:N5 Tryz.prog 122=some ([.int .i64 0,.int .i64 0,.slice none 0 0],[(0,2),(2,1)]):=by kernel_rfl
@[go_sem] theorem Co5:tyZ Tryz.prog 122=some (1,[.int .i64 0,.int .i64 0,.slice none 0 0]):=by kernel_rfl
@[go_sem] theorem Ca6:Fw Tryz.prog 147=some (25,1,24):=by kernel_rfl
@[go_sem] theorem Ca7:Wn Tryz.prog 171=some (.i64,.bool false):=by kernel_rfl
@[go_sem] theorem Cp9:tyK Tryz.prog 178=some (0,1):=by kernel_rfl
@[go_sem] theorem Co4:tyZ Tryz.prog 178=some (0,[.nilFunc]):=by kernel_rfl
@[go_sem] theorem Cp8:tyK Tryz.prog 191=some (2,64):=by kernel_rfl
@[go_sem] theorem Ca5:Fw Tryz.prog 191=none:=by kernel_rfl
@[go_sem] theorem Cd3:Yo Tryz.prog 191=some (64,0,1):=by kernel_rfl
@[go_sem] theorem Co3:tyZ Tryz.prog 191=some (2,rep 64 (.int .i64 0)):=by kernel_rfl
@[go_sem] theorem Cp7:tyK Tryz.prog 211=some (0,1):=by kernel_rfl
@[go_sem] theorem Ca4:Fw Tryz.prog 220=none:=by kernel_rfl
@[go_sem] theorem Cd2:Yo Tryz.prog 220=some (2,0,1):=by kernel_rfl
@[go_sem] theorem Cq4:N5 Tryz.prog 220=some ([.int .i64 0,.int .i64 0],[(0,1),(1,1)]):=by kernel_rfl
@[go_sem] theorem Cp6:tyK Tryz.prog 221=some (2,4):=by kernel_rfl
@[go_sem] theorem Ca3:Fw Tryz.prog 221=none:=by kernel_rfl
@[go_sem] theorem Cd1:Yo Tryz.prog 221=some (2,2,2):=by kernel_rfl
@[go_sem] theorem Cq3:N5 Tryz.prog 221=some ([.int .i64 0,.int .i64 0,.int .i64 0,.int .i64 0],[(0,2),(2,2)]):=by kernel_rfl
@[go_sem] theorem Co2:tyZ Tryz.prog 221=some (2,[.int .i64 0,.int .i64 0,.int .i64 0,.int .i64 0]):=by kernel_rfl
@[go_sem] theorem Cp5:tyK Tryz.prog 223=some (0,1):=by kernel_rfl
@[go_sem] theorem C26:tyF Tryz.prog 225 0=some (0,2,64):=by kernel_rfl
@[go_sem] theorem C25:tyF Tryz.prog 225 1=some (64,0,1):=by kernel_rfl
@[go_sem] theorem Co1:tyZ Tryz.prog 225=some (1,rep 64 (.int .i64 0)++[.int .u64 0]):=by kernel_rfl
@[go_sem] theorem Ca2:Fw Tryz.prog 229=some (35,1,24):=by kernel_rfl
@[go_sem] theorem Ca1:Fw Tryz.prog 230=some (3,1,8):=by kernel_rfl
@[go_sem] theorem Ca0:Fw Tryz.prog 243=some (27,1,24):=by kernel_rfl
@[go_sem] theorem Cp4:tyK Tryz.prog 246=some (0,1):=by kernel_rfl
def Xo (s:Aa):List IV:=[.val (.int .i64 s.count),.val (.int .i64 s.node)]
def M1 (s:Ad):List IV:=[.val (.int .i64 s.lo),.val (.int .i64 s.hi)]
def enW (y:Ai):List IV:=[.val (.int .i64 y.stamp.count),.val (.int .i64 y.stamp.node),.val (.int .i64 y.object),.val (.bool y.gone)]
def stI (l:List Aa):IV:=.sl 2 (l.map Xo)
def spI (l:List Ad):IV:=.sl 2 (l.map M1)
def wrI (l:List Ai):IV:=.sl 4 (l.map enW)
def enN (x:Aq):List IV:=[stI x.start,stI x.end_,spI x.blur,wrI x.writes]
def noI (l:List Aq):IV:=.sl 4 (l.map enN)
def stA (l:List Aa):AV:=.iv (stI l)
def spA (l:List Ad):AV:=.iv (spI l)
def F3 (x:Aq):AV:=.agg [.iv (stI x.start),.iv (stI x.end_),.iv (spI x.blur),.iv (wrI x.writes)]
theorem B49 (s:Ad):M1 s=[.val (.int .i64 s.lo),.val (.int .i64 s.hi)]:=rfl
theorem Fa (y:Ai):enW y=[.val (.int .i64 y.stamp.count),.val (.int .i64 y.stamp.node),.val (.int .i64 y.object),.val (.bool y.gone)]:=rfl
theorem Lm (x:Aq):enN x=[stI x.start,stI x.end_,spI x.blur,wrI x.writes]:=rfl
section
variable {X : World} {v : Value}
theorem U4 {cs:List Value} {s:Aa} (h:G2 cs s):B8 X cs (Xo s):=by
 obtain ⟨rfl,h1,h2⟩:=h;exact ⟨.val h1,.val h2,trivial⟩
theorem Bx5 {cs:List Value} {s:Aa} (h:B8 X cs (Xo s)):G2 cs s:=by
 match cs,h with
 | [a,b],⟨h1,h2,_⟩=>cases h1 with | val i1=>cases h2 with | val i2=>exact ⟨rfl,i1,i2⟩
theorem Qf {cs:List Value} {s:Ad} (h:Em cs s):B8 X cs (M1 s):=by
 obtain ⟨rfl,h1,h2⟩:=h;exact ⟨.val h1,.val h2,trivial⟩
theorem Bx6 {cs:List Value} {s:Ad} (h:B8 X cs (M1 s)):Em cs s:=by
 match cs,h with
 | [a,b],⟨h1,h2,_⟩=>cases h1 with | val i1=>cases h2 with | val i2=>exact ⟨rfl,i1,i2⟩
theorem Bs8 {cs:List Value} {s:Ai} (h:Ut cs s):B8 X cs (enW s):=by
 obtain ⟨rfl,h1,h2,h3⟩:=h;exact ⟨.val h1,.val h2,.val h3,.val trivial,trivial⟩
theorem Ce9 {cs:List Value} {s:Ai} (h:B8 X cs (enW s)):Ut cs s:=by
 match cs,h with
 | [a,b,c,d],⟨h1,h2,h3,h4,_⟩=>cases h1 with | val i1=>cases h2 with | val i2=>cases h3 with | val i3=>cases h4 with | val i4=>exact ⟨rfl,i1,i2,i3⟩
theorem D3.stamps {l:List Aa} (h:D3 X v (stI l)):Cc X X.heap.size v l:=h.to_typed fun _ _ _ h=>Bx5 h
theorem D3.spans {l:List Ad} (h:D3 X v (spI l)):E5 X X.heap.size v l:=h.to_typed fun _ _ _ h=>Bx6 h
theorem D3.writes {l:List Ai} (h:D3 X v (wrI l)):N1 X X.heap.size v l:=h.to_typed fun _ _ _ h=>Ce9 h
theorem Mk {l:List Aa} {B:Nat} (h:Cc X B v l) (hB:B<=X.heap.size):D3 X v (stI l):=D3.of_typed (fun _ _ h=>U4 h) h hB
theorem A79 {l:List Ad} {B:Nat} (h:E5 X B v l) (hB:B<=X.heap.size):D3 X v (spI l):=D3.of_typed (fun _ _ h=>Qf h) h hB
theorem Zb {l:List Ai} {B:Nat} (h:N1 X B v l) (hB:B<=X.heap.size):D3 X v (wrI l):=D3.of_typed (fun _ _ h=>Bs8 h) h hB
theorem Pj {E:Env} {w:World} (he:Ext X w) {x:Aq} (h:B9 E X v (F3 x)):∃ v0 v1 v2 v3,v=.agg #[v0,v1,v2,v3]/\Sj w w.heap.size v0 v1 v2 v3 x:=by
 cases h with
 | @agg vs _ h1 h2 =>
  obtain ⟨l⟩:=vs
  match l,h1 with
  | [v0,v1,v2,v3],_ =>
   have a0:=h2 0 v0 _ rfl rfl
   have a1:=h2 1 v1 _ rfl rfl
   have a2:=h2 2 v2 _ rfl rfl
   have a3:=h2 3 v3 _ rfl rfl
   cases a0 with | iv a0=>cases a1 with | iv a1=>cases a2 with | iv a2=>cases a3 with | iv a3 =>
   exact ⟨v0,v1,v2,v3,rfl,a0.stamps.ext (fun _ _ h=>h) he,a1.stamps.ext (fun _ _ h=>h) he,a2.spans.ext (fun _ _ h=>h) he,a3.writes.ext (fun _ _ h=>h) he⟩
theorem Bi.map_ {α β:Type} {R:List Value->α->Prop} {R':List Value->β->Prop} {f:α->β} {k:Nat} (hR:∀ cs x,R cs x->R' cs (f x)):∀ {xs:List Value} {l:List α},Bi R k xs l->Bi R' k xs (l.map f)
 | _,[],h=>h
 | _,_ :: _,⟨cs,rest,e,hk,h1,h⟩=>⟨cs,rest,e,hk,hR _ _ h1,Bi.map_ hR h⟩
theorem Af.map_ {α β:Type} {R:List Value->α->Prop} {R':List Value->β->Prop} {f:α->β} {k:Nat} {w:World} {base:Nat} {e:TypeId} {l:List α} (hR:∀ cs x,R cs x->R' cs (f x)) (h:Af R k w base e v l):Af R' k w base e v (l.map f):=by
 obtain ⟨xs,h1,h2,h3⟩:=h
 exact ⟨xs,by rw [List.length_map];exact h1,h2.map_ hR,by rw [List.length_map];exact h3⟩
end
section
variable {P : Program} {G : World -> Prop} {f : FuncId} {fn : Func} {c : Code}
theorem Vy (hf : P.funcs[f]? = some fn) (hb : fn.body = some c) (hname : (fn.name == "runtime.NumGoroutine") = false) (vs : Array Value) (w : World) : (callFunc f vs).run P w = .ok (.enter f vs) w := by
 have hname' : ¬ fn.name = "runtime.NumGoroutine" := by simpa using hname
 simp [callFunc,program,Sem.run,hf,hname',hb]
theorem B15 {args : List AV} {r : AV} (hf : P.funcs[f]? = some fn) (hb : fn.body = some c) (hname : (fn.name == "runtime.NumGoroutine") = false)
  (h:∀ (V w:World) (E:Env) (vs:Array Value),Ext V w->G w->As E V vs.toList args->Calls P f vs w fun e w'=>∃ v,e=.returned v/\Below w.heap.size w w'/\B9 E (vis V w w' []) v r):A7 P G f args r [] :=
 ⟨Vy hf hb hname,fun V w E vs hV hG hr=>(h V w E vs hV hG hr).mono fun _ w' ⟨v,he,hb,hv⟩=>⟨v,E,he,hb,List.nodup_nil,fun _ h=>(by cases h),fun _ h=>(by cases h),hv⟩⟩
theorem Ja {E:Env} {V:World} {vs:Array Value} {a:AV} (h:As E V vs.toList [a]):∃ v,vs=#[v]/\B9 E V v a:=by
 obtain ⟨v,vs',h1,h2,h3⟩:=As.cons_iff.1 h
 rw [As.nil_iff] at h3
 subst h3
 exact ⟨v,by rw [<-Array.toArray_toList (xs:=vs),h1],h2⟩
theorem K1 {E:Env} {V:World} {vs:Array Value} {a b:AV} (h:As E V vs.toList [a,b]):∃ v u,vs=#[v,u]/\B9 E V v a/\B9 E V u b:=by
 obtain ⟨v,vs',h1,h2,h3⟩:=As.cons_iff.1 h
 obtain ⟨u,vs2,rfl,h4,h5⟩:=As.cons_iff.1 h3
 rw [As.nil_iff] at h5
 subst h5
 exact ⟨v,u,by rw [<-Array.toArray_toList (xs:=vs),h1],h2,h4⟩
theorem Cq {E:Env} {V w:World} {v:Value} {l:List Aa} (hV:Ext V w) (h:B9 E V v (.iv (stI l))):Cc w w.heap.size v l:=by
 cases h with | iv h=>exact h.stamps.ext (fun _ _ h=>h) hV
theorem Fi {E:Env} {V w:World} {v:Value} {l:List Ad} (hV:Ext V w) (h:B9 E V v (.iv (spI l))):E5 w w.heap.size v l:=by
 cases h with | iv h=>exact h.spans.ext (fun _ _ h=>h) hV
theorem Bb1 {E:Env} {V w:World} {v:Value} {l:List Ai} (hV:Ext V w) (h:B9 E V v (.iv (wrI l))):N1 w w.heap.size v l:=by
 cases h with | iv h=>exact h.writes.ext (fun _ _ h=>h) hV
theorem Cd {args : List AV} {v : Value} (hf : P.funcs[f]? = some fn) (hb : fn.body = some c) (hname : (fn.name == "runtime.NumGoroutine") = false)
  (h:∀ (V w:World) (E:Env) (vs:Array Value),Ext V w->G w->As E V vs.toList args->Calls P f vs w fun e w'=>e=.returned v/\Below w.heap.size w w'):A7 P G f args (.val v) [] :=
 ⟨Vy hf hb hname,fun V w E vs hV hG hr=>(h V w E vs hV hG hr).mono fun _ w' ⟨he,hb⟩=>⟨v,E,he,hb,List.nodup_nil,fun _ h=>(by cases h),fun _ h=>(by cases h),.val⟩⟩
theorem Dj {α : Type} {R : List Value -> α -> Prop} {enc : α -> List IV} {k T : Nat} {l : List α} (hR : ∀ X cs x, R cs x -> B8 X cs (enc x)) {args : List AV} (hf : P.funcs[f]? = some fn) (hb : fn.body = some c) (hname : (fn.name == "runtime.NumGoroutine") = false)
  (h:∀ (V w:World) (E:Env) (vs:Array Value),Ext V w->G w->As E V vs.toList args->Calls P f vs w fun e w'=>(∃ v,e=.returned v/\Af R k w' w.heap.size T v l)/\Below w.heap.size w w'):A7 P G f args (.own 0) [.row 0 T k (l.map enc)] :=
 ⟨Vy hf hb hname,fun V w E vs hV hG hr=>(h V w E vs hV hG hr).mono fun _ w' ⟨⟨v,he,hO⟩,hb⟩=>by
  obtain ⟨A,cc,hv⟩:=hO.form
  have ho:Ac ⟨fun _=>(v.ownBlock).getD 0,fun _=>v⟩ [.row 0 T k (l.map enc)]=v.ownBlock.toList:=by simp [Ac,BA.owned]
  refine ⟨v,⟨fun _=>(v.ownBlock).getD 0,fun _=>v⟩,he,hb,by rw [ho];cases v.ownBlock<;>simp,fun g hg=>by rw [ho,Option.mem_toList] at hg;exact (hO.lt g hg).1,fun b hb'=>?_,?_⟩
  ·simp only [List.mem_singleton] at hb'
   subst hb'
   exact ⟨hO.map_ fun cs x h=>hR _ cs x h,fun g hg=>by simp [hg]⟩
  ·rw [hv]
   exact .own rfl⟩
end
end Go.Proofs.YthlgnjlpakimaaaGreatDoor
