/- Contracts of a vector's form, the program's and the reference's. -/
import Derived.Test.YthlgnjlpakimaaaGreatDoorURep
import Derived.Test.YthlgnjlpakimaaaGreatDoorUArr
set_option linter.all false
set_option linter.unnecessarySimpa false
set_option linter.unusedSimpArgs false
set_option linter.unusedVariables false
namespace Go.Proofs.YthlgnjlpakimaaaGreatDoor
open Go.ChangeShapes Go.WideShapes Go.ChangeAt Go.RowKit
structure Ab where
 count:Int
 node:Int
 deriving DecidableEq
def Fu (cs:List Value) (s:Ab):Prop:=cs=[.int .i64 s.count,.int .i64 s.node]/\I64 s.count/\I64 s.node
theorem Q4 {w:World} : Ge Tryz.prog w 42 2 Fu:=by
 intro H enc fuel cs x h
 obtain ⟨hl,n,hf⟩:=Dm Tryz.underlying42 h
 have hk:Tryz.prog.cellsOf 42=2:=by kernel_rfl
 have hi:Tryz.prog.cellsOf 3=1:=by kernel_rfl
 rw [hk] at hl
 refine ⟨hl,?_⟩
 match cs,hl with
 | [v0,v1],_ =>
  obtain ⟨y0,h0⟩:=hf 0 3 0 1 rfl hi
  obtain ⟨y1,h1⟩:=hf 1 3 1 1 rfl hi
  obtain ⟨_,a,e0,ia⟩:=Ek (w:=w) Tryz.underlying3 H enc n _ _ h0
  obtain ⟨_,b,e1,ib⟩:=Ek (w:=w) Tryz.underlying3 H enc n _ _ h1
  simp at e0 e1
  subst e0 e1
  exact ⟨⟨a,b⟩,rfl,ia,ib⟩
abbrev C0:=Sl Fu 2
theorem Je {w:World} : Ge Tryz.prog w 25 1 (fun cs l=>∃ v,cs=[v]/\C0 w w.heap.size v l) :=
 F7 Tryz.underlying25 (by kernel_rfl) (by omega) Q4
def Ee:Int->List Ab->Bool
 | _,[]=>true
 | e,s :: l=>(Bm s.count s.node&&decide (e < s.node))&&Ee s.node l
def Av (l:List Ab):Bool:=Ee (-1) l
theorem E6 {α:Type} {l:List α} {m:Nat} {x:α} (h:l[m]? = some x):l.drop m=x :: l.drop (m+1):=by
 obtain ⟨hm,rfl⟩:=List.getElem?_eq_some_iff.1 h
 exact List.drop_eq_getElem_cons hm
theorem Cu {α:Type} {l:List α} {m:Nat} {x:α} (h:l[m]? = some x):l.take (m+1)=l.take m++[x]:=by
 rw [List.take_add_one,h];rfl
theorem Ja {b:Bool} (c n:Int) (w:World) (h:Bm c n=b) :
  Calls Tryz.prog 140 #[.agg #[.int .i64 c,.int .i64 n]] w fun e w'=>e=.returned (.bool b)/\Below w.heap.size w w':=h ▸ Ry c n w
theorem Lp {b:Bool} (c n:Int) (w:World) (h:Bm c n=b) :
  Calls Tryz.prog 57 #[.agg #[.int .i64 c,.int .i64 n]] w fun e w'=>e=.returned (.bool b)/\Below w.heap.size w w':=h ▸ Ag0 c n w
theorem Ey {w:World} {B:Nat} {v:Value} {l:List Ab} (h:C0 w B v l) {m:Nat} {x:Ab} (hx:l[m]? = some x) :
  ∃ b off c,v=.slice (some ⟨b,off,none⟩) l.length c/\b < B/\w.cell? ⟨b,off+m*2,none⟩=some (.int .i64 x.count)/\w.cell? ⟨b,off+m*2+1,none⟩=some (.int .i64 x.node)/\I64 x.count/\I64 x.node:=by
 obtain ⟨A,c,rfl,_,_,h3⟩:=h
 obtain ⟨b,off,rfl,hb,h4⟩:=h3 (by rintro rfl;simp at hx)
 obtain ⟨cs,⟨rfl,i1,i2⟩,_,h5⟩:=h4 m x hx
 exact ⟨b,off,c,rfl,hb,h5 0 _ rfl,h5 1 _ rfl,i1,i2⟩
theorem Kw (l:List Ab) (v:Value) (w:World) (h:C0 w w.heap.size v l) :
  Calls Tryz.prog 110 #[v] w fun e w'=>e=.returned (.bool (Av l))/\Below w.heap.size w w':=by
 have hle:=h.len_le
 obtain ⟨A,c,rfl,_⟩:=id h
 go_enter Tryz.func110,Tryz.ntmps110
 go_wp2_with fail
 go_loopw [3,8] (fun a k wr=>∃ (m:Nat) (e:Int),m<=l.length/\k=.int .i64 m/\a=.int .i64 e/\Av l=Ee e (l.drop m)/\Below w.heap.size w wr) (fun _ k _=>l.length - (intOf k).toNat)
 case atStart=>exact ⟨0,-1,Nat.zero_le _,rfl,rfl,rfl,Below.refl _ _⟩
 case round =>
  obtain ⟨m,e,hm,rfl,rfl,hv,hb⟩:=hrel
  by_cases hlt:m < l.length
  ·obtain ⟨x,hx⟩ : ∃ x,l[m]? = some x:=⟨l[m],List.getElem?_eq_getElem hlt⟩
   obtain ⟨b,off,c',hv',hbb,e0,e1,_,_⟩:=Ey h hx
   injection hv' with hv1 hv2 hv3
   subst hv1
   have f0:=(hb.cell (p:=⟨b,off+m*2,none⟩) hbb).trans e0
   have f1:=(hb.cell (p:=⟨b,off+m*2+1,none⟩) hbb).trans e1
   rw [E6 hx,Ee] at hv
   obtain ⟨xc,xn⟩:=x
   simp only at f0 f1 hv
   generalize hr:Bm xc xn=r at hv
   have HV:=Lib.hid hv
   clear hv hv2 hv3 e0 e1 hx
   go_wp2_with fail
   refine (Ja xc xn _ hr).mono ?_
   rintro e' w1 ⟨rfl,hb1⟩
   have B1:=(Blk.new wr 42 #[.int .i64 xc,.int .i64 xn]).next hb1
   have k1:=As (Af hb) hb1
   have b0:=B1.cell 0
   have b1:=B1.cell 1
   simp only [List.getElem?_toArray,List.getElem?_cons_zero,List.getElem?_cons_succ] at b0 b1
   clear hb1 hr
   cases r<;>go_wp2_with fail
   ·go_ret
    exact ⟨Ag (by rw [HV.out];rfl),k1⟩
   ·go_ret
    refine ⟨Ag ?_,k1⟩
    rw [HV.out,decide_eq_false (by omega)];rfl
   ·refine ⟨⟨m+1,xn,by omega,by go_num,rfl,?_,k1⟩,by simp [intOf];omega⟩
    rw [HV.out,decide_eq_true (by omega)];rfl
  ·obtain rfl:m=l.length:=by omega
   rw [List.drop_length] at hv
   have HV:=Lib.hid hv
   clear hv
   go_wp2_with fail
   go_ret
   exact ⟨Ag HV.out.symm,hb⟩
theorem Ko (l:List Ab) (v:Value) (w:World) (h:C0 w w.heap.size v l) :
  Calls Tryz.prog 60 #[v] w fun e w'=>e=.returned (.bool (Av l))/\Below w.heap.size w w':=by
 have hle:=h.len_le
 obtain ⟨A,c,rfl,_⟩:=id h
 go_enter Tryz.func60,Tryz.ntmps60
 go_wp2_with fail
 go_loopw [3] (fun k wr=>∃ (m:Nat) (e:Int),m<=l.length/\k=.int .i64 m/\(m=0->e=-1)/\(∀ i x,m=i+1->l[i]? = some x->e=x.node)/\Av l=Ee e (l.drop m)/\Below w.heap.size w wr) (fun k _=>l.length - (intOf k).toNat)
 case atStart=>exact ⟨0,-1,Nat.zero_le _,rfl,fun _=>rfl,fun i x hi=>by omega,rfl,Below.refl _ _⟩
 case round =>
  obtain ⟨m,e,hm,rfl,he0,he1,hv,hb⟩:=hrel
  by_cases hlt:m < l.length
  ·obtain ⟨x,hx⟩ : ∃ x,l[m]? = some x:=⟨l[m],List.getElem?_eq_getElem hlt⟩
   obtain ⟨b,off,c',hv',hbb,e0,e1,_,_⟩:=Ey h hx
   injection hv' with hv1 hv2 hv3
   subst hv1
   have f0:=(hb.cell (p:=⟨b,off+m*2,none⟩) hbb).trans e0
   have f1:=(hb.cell (p:=⟨b,off+m*2+1,none⟩) hbb).trans e1
   rw [E6 hx,Ee] at hv
   obtain ⟨xc,xn⟩:=x
   simp only at f0 f1 hv
   generalize hr:Bm xc xn=r at hv
   have HV:=Lib.hid hv
   clear hv hv2 hv3 e0 e1
   cases m with
   | zero =>
    simp only [Nat.zero_mul,Nat.add_zero] at f0 f1
    cases r
    all_goals
     go_wp2_with fail
     have q0:∀ z:BW wr,z.val.cell? ⟨b,off,none⟩=some (.int .i64 xc):=fun z=>z.cell f0
     have q1:∀ z:BW wr,z.val.cell? ⟨b,off+1,none⟩=some (.int .i64 xn):=fun z=>z.cell f1
     clear f0 f1
     refine Cb (by kernel_rfl) (by kernel_rfl) ?_
     repeat (go_big_quiet_step (first | (go_at_call 57;exact Fo (Lp _ _ _ hr))))
    all_goals
     refine wpQuiet_nil ?_
     intro w1 hb1
     have k1:=As hb hb1
     go_wp2_with fail
    ·go_ret
     exact ⟨Ag (by rw [HV.out];rfl),k1⟩
    ·refine ⟨⟨1,xn,by omega,by go_num,fun h=>by omega,fun i x hi hxi=>?_,?_,k1⟩,by simp [intOf];omega⟩
     ·obtain rfl:i=0:=by omega
      rw [hx] at hxi
      injection hxi with hxi
      subst hxi
      rfl
     ·simp only [Bm,decide_eq_true_eq] at hr
      rw [HV.out,decide_eq_true (by have:=he0 trivial;omega)];rfl
   | succ i =>
    obtain ⟨y,hy⟩ : ∃ y,l[i]? = some y:=⟨l[i],List.getElem?_eq_getElem (by omega)⟩
    obtain rfl:=he1 i y rfl hy
    obtain ⟨b',off',c'',hv',_,_,e1,_,_⟩:=Ey h hy
    injection hv' with hv1 hv2 hv3
    injection hv1 with hv1
    injection hv1 with hv4 hv5
    subst hv4 hv5
    have g1:=(hb.cell (p:=⟨b,off+i*2+1,none⟩) hbb).trans e1
    have Hx:=Lib.hid hx
    clear he1 he0 hy hv2 hv3 hx
    have i1:(0:Int) < (i:Int)+1:=by omega
    have i2:(i:Int)+1 < (l.length:Int):=by omega
    have i3:(i:Int) < (l.length:Int):=by omega
    have q0:∀ z:BW wr,z.val.cell? ⟨b,off+(i+1)*2,none⟩=some (.int .i64 xc):=fun z=>z.cell f0
    have q1:∀ z:BW wr,z.val.cell? ⟨b,off+(i+1)*2+1,none⟩=some (.int .i64 xn):=fun z=>z.cell f1
    have q2:∀ z:BW wr,z.val.cell? ⟨b,off+i*2+1,none⟩=some (.int .i64 y.node):=fun z=>z.cell g1
    clear f0 f1 g1 e1
    have s1:IntKind.i64.wrap ((i:Int)+1)=(i:Int)+1:=IntWalk.i64_in _ (by omega)
    have s2:IntKind.i64.wrap (i:Int)=(i:Int):=IntWalk.i64_in _ (by omega)
    cases r
    all_goals
     go_wp2_with fail
     refine Cb (by kernel_rfl) (by kernel_rfl) ?_
     repeat (go_big_quiet_step (first | (go_at_call 57;exact Fo (Lp _ _ _ hr))))
     refine wpQuiet_nil ?_
     intro w1 hb1
     have k1:=As hb hb1
     clear s1 s2
     go_wp2_with fail
    ·go_ret
     exact ⟨Ag (by rw [HV.out];rfl),k1⟩
    ·go_ret
     refine ⟨Ag ?_,k1⟩
     rw [HV.out,decide_eq_false (by omega)];rfl
    ·refine ⟨⟨i+1+1,xn,by omega,by go_num,fun h=>by omega,fun i' x hi hxi=>?_,?_,k1⟩,by simp [intOf];omega⟩
     ·obtain rfl:i'=i+1:=by omega
      rw [Hx.out] at hxi
      injection hxi with hxi
      subst hxi
      rfl
     ·rw [HV.out,decide_eq_true (by omega)];rfl
  ·obtain rfl:m=l.length:=by omega
   rw [List.drop_length] at hv
   have HV:=Lib.hid hv
   clear hv he0 he1
   go_wp2_with fail
   go_ret
   exact ⟨Ag HV.out.symm,hb⟩
end Go.Proofs.YthlgnjlpakimaaaGreatDoor
