/- Contracts of the reference's sets: which objects are in a list, and the list of a set. -/
import Derived.Test.YtahgkllhbggmgaaGreatDoorLSpanLaw
import Derived.Test.YtahgkllhbggmgaaGreatDoorLVec
import Derived.Test.YtahgkllhbggmgaaGreatDoorLOwn
import Derived.StillTailTactics
set_option linter.all false
set_option linter.unnecessarySimpa false
set_option linter.unusedSimpArgs false
set_option linter.unusedVariables false
namespace Go.Proofs.YtahgkllhbggmgaaGreatDoor
open Go.ChangeShapes Go.WideShapes Go.ChangeAt Go.RowKit
def Gc (cs:List Value) (s:Ah):Prop:=cs=[.int .i64 s.lo,.int .i64 s.hi]/\I64 s.lo/\I64 s.hi
theorem Xn {w:World} : Dt Tryz.prog w 89 2 Gc:=by
 intro H enc fuel cs x h
 obtain ⟨hl,n,hf⟩:=Bq Tryz.underlying89 h
 have hk:Tryz.prog.cellsOf 89=2:=by kernel_rfl
 have hi:Tryz.prog.cellsOf 3=1:=by kernel_rfl
 rw [hk] at hl
 refine ⟨hl,?_⟩
 match cs,hl with
 | [v0,v1],_ =>
  obtain ⟨y0,h0⟩:=hf 0 3 0 1 rfl hi
  obtain ⟨y1,h1⟩:=hf 1 3 1 1 rfl hi
  obtain ⟨_,a,e0,ia⟩:=Br (w:=w) Tryz.underlying3 H enc n _ _ h0
  obtain ⟨_,b,e1,ib⟩:=Br (w:=w) Tryz.underlying3 H enc n _ _ h1
  simp at e0 e1
  subst e0 e1
  exact ⟨⟨a,b⟩,rfl,ia,ib⟩
abbrev F6:=Sl Gc 2
theorem Jm {w:World} : Dt Tryz.prog w 40 1 (fun cs l=>∃ v,cs=[v]/\F6 w w.heap.size v l) :=
 Cz Tryz.underlying40 (by kernel_rfl) (by omega) Xn
theorem Q0:∀ cs x,Gc cs x->∀ u∈cs,u.oneCell'=true:=by
 rintro cs x ⟨rfl,_⟩ u hu
 simp at hu
 rcases hu with rfl | rfl<;>rfl
theorem Al8:(Tryz.prog.info? 89).map (fun i=>(i.zero,i.size,i.bytes))=some (some (.agg #[.int .i64 0,.int .i64 0]),2,16):=by kernel_rfl
theorem Kn {w:World} {B:Nat} {v:Value} {l:List Ah} (h:F6 w B v l) {m:Nat} {x:Ah} (hx:l[m]? = some x) :
  ∃ b off c,v=.slice (some ⟨b,off,none⟩) l.length c/\b < B/\w.cell? ⟨b,off+m*2,none⟩=some (.int .i64 x.lo)/\w.cell? ⟨b,off+m*2+1,none⟩=some (.int .i64 x.hi)/\I64 x.lo/\I64 x.hi:=by
 obtain ⟨A,c,rfl,_,_,h3⟩:=h
 obtain ⟨b,off,rfl,hb,h4⟩:=h3 (by rintro rfl;simp at hx)
 obtain ⟨cs,⟨rfl,i1,i2⟩,_,h5⟩:=h4 m x hx
 exact ⟨b,off,c,rfl,hb,h5 0 _ rfl,h5 1 _ rfl,i1,i2⟩
set_option maxHeartbeats 400000 in
theorem Ko (l : List Ah) (v : Value) (w : World) (h : F6 w w.heap.size v l) :
    Calls Tryz.prog 144 #[v] w fun e w' => e = .returned (.bool (C1 l)) /\ Below w.heap.size w w' := by
  have hle := h.len_le
  obtain ⟨A, c, rfl, _⟩ := id h
  go_enter Tryz.func144, Tryz.ntmps144
  go_wp2_with fail
  go_loopw [3, 8] (fun a k wr => ∃ (m : Nat) (e : Int), m <= l.length /\ k = .int .i64 m /\ a = .int .i64 e /\ -2 <= e /\ e <= 255 /\ C1 l = Bg e (l.drop m) /\ Below w.heap.size w wr) (fun _ k _ => l.length - (intOf k).toNat)
  case atStart => exact ⟨0, -2, Nat.zero_le _, rfl, rfl, by omega, by omega, rfl, Below.refl _ _⟩
  case round =>
    obtain ⟨m, e, hm, rfl, rfl, he1, he2, hv, hb⟩ := hrel
    by_cases hlt : m < l.length
    · obtain ⟨x, hx⟩ : ∃ x, l[m]? = some x := ⟨l[m], List.getElem?_eq_getElem hlt⟩
      obtain ⟨b, off, c', hv', hbb, e0, e1, _, _⟩ := Kn h hx
      injection hv' with hv1 hv2 hv3
      subst hv1
      have f0 := (hb.cell (p := ⟨b, off + m * 2, none⟩) hbb).trans e0
      have f1 := (hb.cell (p := ⟨b, off + m * 2 + 1, none⟩) hbb).trans e1
      rw [Ek hx, Bg] at hv
      obtain ⟨lo, hi⟩ := x
      simp only at f0 f1 hv
      have HV := Lib.hid hv
      clear hv hv2 hv3 e0 e1 hx
      go_wp2_with fail
      all_goals first
        | (go_ret
           refine ⟨Ak ?_, Ap hb⟩
           rw [HV.out, decide_eq_false (by omega)]; rfl)
        | (refine ⟨⟨m + 1, hi, by omega, by go_num, rfl, by omega, by omega, ?_, Ap hb⟩, by simp [intOf]; omega⟩
           rw [HV.out, decide_eq_true (by omega)]; rfl)
    · obtain rfl : m = l.length := by omega
      rw [List.drop_length] at hv
      have HV := Lib.hid hv
      clear hv
      go_wp2_with fail
      go_ret
      exact ⟨Ak HV.out.symm, hb⟩
theorem P2 (l m:List Ah) (v u:Value) (w:World) (h:F6 w w.heap.size v l) (h':F6 w w.heap.size u m) :
  Calls Tryz.prog 276 #[v,u] w fun e w'=>e=.returned (.bool (decide (l=m)))/\Below w.heap.size w w':=by
 have hle:=h.len_le
 have hle':=h'.len_le
 obtain ⟨A,c,rfl,_⟩:=id h
 obtain ⟨A',c',rfl,_⟩:=id h'
 by_cases hlen:l.length=m.length
 ·have Hlen:=Lib.hid hlen
  have ht:((l.length:Int) != (m.length:Int))=false:=by rw [hlen];simp
  clear hlen
  go_enter Tryz.func276,Tryz.ntmps276
  go_wp2_with fail
  go_loopw [5] (fun k wr=>∃ n:Nat,n<=l.length/\k=.int .i64 n/\l.take n=m.take n/\Below w.heap.size w wr) (fun k _=>l.length - (intOf k).toNat)
  case atStart=>exact ⟨0,Nat.zero_le _,rfl,rfl,Below.refl _ _⟩
  case round =>
   obtain ⟨n,hn,rfl,ht2,hb⟩:=hrel
   have Ht:=Lib.hid ht2
   clear ht2 ht
   by_cases hlt:n < l.length
   ·obtain ⟨x,hx⟩ : ∃ x,l[n]? = some x:=⟨l[n],List.getElem?_eq_getElem hlt⟩
    obtain ⟨y,hy⟩ : ∃ y,m[n]? = some y:=⟨m[n]'(by have:=Hlen.out;omega),List.getElem?_eq_getElem (by have:=Hlen.out;omega)⟩
    obtain ⟨b,off,_,hv,hbb,e0,e1,_,_⟩:=Kn h hx
    obtain ⟨b',off',_,hv',hbb',e0',e1',_,_⟩:=Kn h' hy
    injection hv with hv1 hv2 hv3
    injection hv' with hv1' hv2' hv3'
    subst hv1 hv1'
    have f0:=(hb.cell (p:=⟨b,off+n*2,none⟩) hbb).trans e0
    have f1:=(hb.cell (p:=⟨b,off+n*2+1,none⟩) hbb).trans e1
    have f0':=(hb.cell (p:=⟨b',off'+n*2,none⟩) hbb').trans e0'
    have f1':=(hb.cell (p:=⟨b',off'+n*2+1,none⟩) hbb').trans e1'
    have Hx:=Lib.hid hx
    have Hy:=Lib.hid hy
    have i1:(n:Int) < (l.length:Int):=by omega
    have i2:(n:Int) < (m.length:Int):=by have:=Hlen.out;omega
    clear hv2 hv3 hv2' hv3' e0 e1 e0' e1' hx hy
    obtain ⟨xl,xh⟩:=x
    obtain ⟨yl,yh⟩:=y
    simp only at f0 f1 f0' f1'
    by_cases p1:xl=yl
    ·subst p1
     by_cases p2:xh=yh
     ·subst p2
      go_wp2_with fail
      go_quiet (fail)
      go_wp2_with fail
      refine ⟨⟨n+1,by omega,by go_num,?_,Jb hb _⟩,by simp [intOf];omega⟩
      rw [Eh Hx.out,Eh Hy.out,Ht.out]
     ·have Hres:Hid (decide (l=m)=false):=by
       refine decide_eq_false fun e=>?_
       have:=Hx.out
       rw [e,Hy.out] at this
       simp at this
       exact p2 this.symm
      go_wp2_with fail
      go_quiet (fail)
      go_wp2_with fail
      go_ret
      exact ⟨Ak Hres.out.symm,Jb hb _⟩
    ·have Hres:Hid (decide (l=m)=false):=by
      refine decide_eq_false fun e=>?_
      have:=Hx.out
      rw [e,Hy.out] at this
      simp at this
      exact p1 this.1.symm
     go_wp2_with fail
     go_quiet (fail)
     go_wp2_with fail
     go_ret
     exact ⟨Ak Hres.out.symm,Jb hb _⟩
   ·obtain rfl:n=l.length:=by omega
    have Hres:Hid (decide (l=m)=true):=by
     refine decide_eq_true ?_
     have:=Ht.out
     rwa [List.take_length,Hlen.out,List.take_length] at this
    go_wp2_with fail
    go_ret
    exact ⟨Ak Hres.out.symm,hb⟩
 ·have ht:((l.length:Int) != (m.length:Int))=true:=by simp;omega
  have Hres:Hid (decide (l=m)=false):=decide_eq_false fun e=>hlen (by rw [e])
  clear hlen
  go_enter Tryz.func276,Tryz.ntmps276
  go_wp2_with fail
  go_ret
  exact ⟨Ak Hres.out.symm,Below.refl _ _⟩
def setRow (f:Nat->Bool):Array Value:=G2 256 fun n=>.bool (f n)
theorem Lg (f:Nat->Bool):(setRow f).size=256:=Mw _ _
theorem As0 (f:Nat->Bool):(setRow f).all (·.oneCell')=true:=Ts fun _=>rfl
theorem A94 (f:Nat->Bool):(Tryz.prog.info? 231).map (·.size)=some (setRow f).size:=by rw [Lg];kernel_rfl
theorem Bt4:∀ w,(zeroValue 231).run Tryz.prog w=.ok (.agg (setRow fun _=>false)) w:=(zero_of_info (n:=256) (by kernel_rfl)).1
theorem Ar9 (f:Nat->Bool) (i:Nat) (b:Bool):(setRow f).setIfInBounds i (.bool b)=setRow fun k=>if k=i then b else f k:=by
 rw [setRow,M9,setRow]
 refine F9 fun k _=>?_
 by_cases h:k=i<;>simp [h]
theorem Mu {f g:Nat->Bool} (h:∀ o,o < 256->f o=g o):setRow f=setRow g:=F9 fun o ho=>by rw [h o ho]
set_option maxRecDepth 100000 in
theorem At8 (l:List Ah) (v:Value) (w:World) (h:F6 w w.heap.size v l) :
  Calls Tryz.prog 193 #[v] w fun e w'=>e=.returned (.agg (setRow fun o=>Ba l o))/\Below w.heap.size w w':=by
 have hle:=h.len_le
 obtain ⟨A,c,rfl,_⟩:=id h
 have hz:=Bt4
 go_enter Tryz.func193,Tryz.ntmps193
 go_wp2_with fail
 clear hz
 go_loopw [4] (fun k wr=>∃ m:Nat,m<=l.length/\k=.int .i64 m/\Below w.heap.size w wr/\Blk wr w.heap.size 231 (setRow fun _=>false)/\Blk wr (w.heap.size+1) 231 (setRow fun o=>Ba (l.take m) o)) (fun k _=>l.length - (intOf k).toNat)
 case atStart =>
  refine ⟨0,Nat.zero_le _,rfl,Ap (Ap (Below.refl _ _)),(Blk.new _ _ _).alloc,Blk.new_at (by simp)⟩
 case round =>
  obtain ⟨m,hm,rfl,hb,hB,hC⟩:=hrel
  by_cases hlt:m < l.length
  ·obtain ⟨x,hx⟩ : ∃ x,l[m]? = some x:=⟨l[m],List.getElem?_eq_getElem hlt⟩
   obtain ⟨b,off,c',hv',hbb,e0,e1,r1,r2⟩:=Kn h hx
   injection hv' with hv1 hv2 hv3
   subst hv1
   have f0:=(hb.cell (p:=⟨b,off+m*2,none⟩) hbb).trans e0
   have f1:=(hb.cell (p:=⟨b,off+m*2+1,none⟩) hbb).trans e1
   have ht:=Eh hx
   obtain ⟨lo,hi⟩:=x
   simp only at f0 f1 ht r1 r2
   have r3:=r1.hi
   have r4:=r2.hi
   have r5:=r1.lo
   have r6:=r2.lo
   have Ht:=Lib.hid ht
   have E0:=Lib.hid e0
   have E1:=Lib.hid e1
   clear ht hv2 hv3 e0 e1 hx r1 r2
   go_wp2_with fail
   all_goals
    clear f0 f1
    go_loopw [5] (fun k w2=>∃ q:Int,0<=q/\lo<=q/\(q<=0\/q<=lo\/q<=hi+1)/\q<=9223372036854775807/\k=.int .i64 q/\Below w.heap.size w w2/\Blk w2 w.heap.size 231 (setRow fun _=>false)/\Blk w2 (w.heap.size+1) 231 (setRow fun o=>Ba (l.take m) o || (decide (lo<=o)&&decide ((o:Int) < q)))) (fun k _=>(256 - intOf k).toNat)
    case atStart =>
     refine ⟨_,?_,?_,?_,?_,rfl,hb,hB,?_⟩
     ·omega
     ·omega
     ·omega
     ·omega
     ·refine Eq.mp (congrArg (Blk wr (w.heap.size+1) 231) (Mu fun o _=>?_)) hC
      rw [Bool.and_eq_false_imp.2 (fun h1=>by simp only [decide_eq_true_eq] at h1;exact decide_eq_false (by omega)),Bool.or_false]
    case round =>
     obtain ⟨q,q1,q2,q3,q4,rfl,hb2,hB2,hC2⟩:=hrel
     have f0:=(hb2.cell (p:=⟨b,off+m*2,none⟩) hbb).trans E0.out
     have f1:=(hb2.cell (p:=⟨b,off+m*2+1,none⟩) hbb).trans E1.out
     by_cases hgo:q<=255/\q<=hi
     ·obtain ⟨g1,g2⟩:=hgo
      obtain ⟨n,rfl⟩ : ∃ n:Nat,q=n:=⟨q.toNat,by omega⟩
      have hn:n < 256:=by omega
      have c0:=(hC2.cell n).trans (Dv hn)
      have d0:=hC2.frozen n
      go_wp2_with fail
      all_goals
       refine ⟨⟨(n:Int)+1,by omega,by omega,by omega,by omega,rfl,Yu hb2 (by simp),hB2.far (by simp) _,?_⟩,by simp [intOf];omega⟩
       have:=hC2.set_ n (.bool true)
       rw [Ar9] at this
       refine Eq.mp (congrArg _ (Mu fun o _=>?_)) this
       by_cases ho:o=n
       ·subst ho
        rw [if_pos rfl,decide_eq_true (p:=lo<=(o:Int)) (by omega),decide_eq_true (p:=(o:Int) < (o:Int)+1) (by omega)]
        simp
       ·rw [if_neg ho]
        congr 2
        exact decide_eq_decide.2 ⟨fun _=>by omega,fun _=>by omega⟩
     ·have hC3:Blk wr (w.heap.size+1) 231 (setRow fun o=>Ba (l.take (m+1)) o):=by
       refine Eq.mp (congrArg _ (Mu fun o ho=>?_)) hC2
       rw [Ht.out,Db]
       congr 1
       simp only [Ba,List.any_cons,List.any_nil,Bool.or_false]
       by_cases hlo:lo<=(o:Int)
       ·rw [decide_eq_true hlo,Bool.true_and,Bool.true_and]
        exact decide_eq_decide.2 ⟨fun _=>by omega,fun _=>by omega⟩
       ·rw [decide_eq_false hlo];rfl
      clear hC2
      have hcs:hi < q\/(255 < q/\q<=hi):=by omega
      clear hgo
      rcases hcs with g1 | ⟨g1,g2⟩
      all_goals
       go_wp2_with fail
       all_goals first
        | (exfalso;omega)
        | exact ⟨⟨m+1,by omega,by go_num,hb2,hB2,hC3⟩,by simp [intOf];omega⟩
  ·obtain rfl:m=l.length:=by omega
   rw [List.take_length] at hC
   go_wp2_with (first
    | (refine wpList_load_row rfl 231 (.tmp 3) rfl (w.heap.size+1) rfl 231 _ (0,0) _ hC.raw Tryz.underlying231 rfl (A94 _) ?_)
    | (refine wpList_store_row rfl 231 (.tmp 2) (.tmp 30) rfl w.heap.size _ rfl rfl 231 _ hB.raw (A94 _) ((Lg _).trans (Lg _).symm) (As0 _) ?_))
   exact bodyPost_ret (results_cell_row Tryz.results193 _ _ w.heap.size 231 _ (0,0) _ rfl (hB.setRow (cs':=setRow fun o=>Ba l o)).raw Tryz.underlying231 rfl (A94 _)) rfl ⟨rfl,Ln hb (by simp)⟩
theorem Pw {ops:Array Oper} {rest:List Oper} {o:Oper} {a:Act} {Q:Exit->Act->World->Prop} {wr:World} (hgd:o.guard=none) (s x:Operand)
  (ho:o.op=.call { callee:=.builtin .append,args:=#[s,x],argTypes:=#[40,40] }) (base:Nat) (v:Value) (l:List Ah) (hs:a.eval s=v)
  (hown:Ai Gc 2 wr base 89 v l) (lo hi:Int) (i1:I64 lo) (i2:I64 hi) (hlen:l.length<=1000000) (hx:a.eval x=.slice (some ⟨wr.heap.size,0,none⟩) 1 1) (hbase:base<=wr.heap.size)
  (h:∀ v' w',Ai Gc 2 w' base 89 v' (l++[⟨lo,hi⟩])->(∀ g t cs,g < base->Blk wr g t cs->Blk w' g t cs)->(∀ u:World,u.heap.size<=base->Below u.heap.size u wr->Below u.heap.size u w')->wpList Tryz.prog ops Q rest (a.put o.dst v') w') :
  wpList Tryz.prog ops Q (o :: rest) a (wr.alloc (.cells #[.int .i64 lo,.int .i64 hi] 89)):=by
 obtain ⟨i0,hi0,hz0,hz1,hz2⟩:=info_parts Al8
 have hB:Blk (wr.alloc (.cells #[.int .i64 lo,.int .i64 hi] 89)) wr.heap.size 89 #[.int .i64 lo,.int .i64 hi]:=Blk.new _ _ _
 have hsl:Sl Gc 2 (wr.alloc (.cells #[.int .i64 lo,.int .i64 hi] 89)) (wr.alloc (.cells #[.int .i64 lo,.int .i64 hi] 89)).heap.size (.slice (some ⟨wr.heap.size,0,none⟩) 1 1) [⟨lo,hi⟩] :=
  (Ai.of_blk (R:=Gc) (k:=2) (l:=[(⟨lo,hi⟩ : Ah)]) hB (Bh.one (R:=Gc) (x:=⟨lo,hi⟩) rfl ⟨rfl,i1,i2⟩) (by simp)).sl
 refine G5 _ Q0 hgd s x 40 ho base 89 i0 _ 16 Tryz.underlying40 hi0 hz0 hz1 hz2 rfl (by omega) v l hs (hown.next (Ap (Below.refl _ _))) _ _ [⟨lo,hi⟩] hx hsl (by simp only [List.length_singleton];omega) (by omega) (by show base<=(wr.alloc _).heap.size;simp;omega) ?_
 intro v' w' h1 h2 _
 have hlt:=hown.lt
 refine h v' w' h1 (fun g t cs hg hb=>(hb.alloc).grown h2 (fun e=>?_)) (fun u hu hb=>(Ap hb).grown h2 (Ap hb).size fun k hk=>?_)
 ·have:=(hlt g e.symm).1;omega
 ·have:=(hlt k hk).1;omega
set_option maxRecDepth 100000 in
theorem C29 (f:Nat->Bool) (w:World) :
  Calls Tryz.prog 194 #[.agg (setRow f)] w fun e w'=>(∃ v,e=.returned v/\Ai Gc 2 w' w.heap.size 89 v (Gb f))/\Below w.heap.size w w':=by
 obtain ⟨i0,hi,hz0,hz1,hz2⟩:=info_parts Al8
 go_enter Tryz.func194,Tryz.ntmps194
 go_wp2_with fail
 have Hi:=Lib.hid hi
 have Hz0:=Lib.hid hz0
 have Hz1:=Lib.hid hz1
 have Hz2:=Lib.hid hz2
 clear hi hz0 hz1 hz2
 go_loopw [3,4] (fun v k wr=>∃ n:Nat,n<=256/\k=.int .i64 n/\Ai Gc 2 wr (w.heap.size+1) 89 v (Fd f n)/\Blk wr w.heap.size 231 (setRow f)/\Below w.heap.size w wr) (fun _ k _=>256 - (intOf k).toNat)
 case atStart=>exact ⟨0,by omega,rfl,Ai.nil_ _ _ _,Blk.new _ _ _,Ap (Below.refl _ _)⟩
 case round =>
  rename_i v0 k0
  obtain ⟨n,hn,rfl,hown,hB,hb⟩:=hrel
  by_cases hlt:n < 256
  ·have hstep:Fd f (n+1)=Xq f (Fd f n) n:=rfl
   have hinv:=Mz f n hn
   have c0:=(hB.cell n).trans (Dv hlt)
   have hnI:(n:Int) < 256:=by omega
   rw [Xq] at hstep
   cases hf:f n with
   | false =>
    rw [hf,if_neg (by simp)] at hstep
    simp only [hf] at c0
    have Hstep:=Lib.hid hstep
    clear hstep hf hinv
    go_wp2_with fail
    refine ⟨⟨n+1,by omega,by go_num,?_,hB,hb⟩,by simp [intOf];omega⟩
    rw [Hstep.out]
    exact hown
   | true =>
    simp only [hf] at c0
    rw [hf,if_pos rfl] at hstep
    have hlen:(Fd f n).length<=256:=by
     have:=Lw hinv.formed (by omega) (by omega)
     omega
    by_cases hp:0 < n/\f (n - 1)=true
    ·rw [if_pos hp] at hstep
     obtain ⟨p,rfl⟩ : ∃ p,n=p+1:=⟨n - 1,by omega⟩
     have c1:=(hB.cell p).trans (Dv (by omega))
     have hfp:=hp.2
     simp only [Nat.add_sub_cancel] at hfp
     simp only [hfp] at c1
     obtain ⟨l',s,hl,hs⟩ : ∃ l' s,Fd f (p+1)=l'++[s]/\s.hi=((p+1:Nat):Int) - 1:=by
      rcases hinv.ends with ⟨_,_,l',s,h1,h2⟩ | ⟨h1,_⟩
      ·exact ⟨l',s,h1,h2⟩
      ·simp [hfp] at h1
     rw [hl] at hstep hown hlen
     simp only [List.dropLast_concat,List.getLast?_append,List.getLast?_singleton,Option.some_or,Option.getD_some] at hstep
     have Hstep:=Lib.hid hstep
     rcases hown.forms with ⟨_,h0⟩ | ⟨g,c,rfl,hg1,hg2⟩
     ·simp at h0
     have hat:(l'++[s])[l'.length]? = some s:=by simp
     obtain ⟨cs,⟨rfl,i1,i2⟩,_,hcs⟩:=hown.at_ hat
     have e0:=hcs 0 _ rfl
     have e1:=hcs 1 _ rfl
     have fz:=hown.frozen (l'.length*2+1)
     have hne:w.heap.size < g:=by omega
     have Hhat:=Lib.hid hat
     clear hstep hf hinv hp hfp hl hs hcs hat
     simp only [List.length_append,List.length_singleton] at hlen
     have hL:(((l'++[s]).length:Nat):Int)=(l'.length:Int)+1:=by simp
     have Hown:=Lib.hid hown
     clear hown
     rw [List.length_append,List.length_singleton] at *
     go_wp2_with fail
     have h2:Ai Gc 2 wr (w.heap.size+1) 89 (.slice (some ⟨g,0,none⟩) (l'++[s]).length c) (l'++[s]):=by
      rw [List.length_append,List.length_singleton];exact Hown.out
     have h3:=h2.set_ (i:=l'.length) (j:=1) (u:=.int .i64 ((p:Int)+1)) (x':=⟨s.lo,(p:Int)+1⟩) Hhat.out (by omega) (by
      rintro cs ⟨rfl,j1,j2⟩ _
      exact ⟨rfl,j1,I64.of (by simp only;omega) (by simp only;omega)⟩)
     rw [List.length_append,List.length_singleton,List.set_append_right _ _ (Nat.le_refl _),Nat.sub_self,List.set_cons_zero] at h3
     refine ⟨⟨p+1+1,by omega,by go_num,?_,hB.far (by simp only;omega) _,Yu hb (by simp only;omega)⟩,by simp [intOf];omega⟩
     rw [Hstep.out]
     exact h3
    ·rw [if_neg hp] at hstep
     have Hstep:=Lib.hid hstep
     have hguard:n=0\/f (n - 1)=false:=by
      rcases Nat.eq_zero_or_pos n with h | h
      ·exact Or.inl h
      ·right
       cases hq:f (n - 1) with
       | false=>rfl
       | true=>exact absurd ⟨h,hq⟩ hp
     have Hown:=Lib.hid hown
     obtain ⟨A0,c0',rfl⟩:=hown.form
     clear hstep hf hinv hp hown
     have hw0:=hB.lt
     rcases hguard with rfl | hg0
     ·go_wp2_with (at_builtin;(refine Pw (wr:=wr) rfl (.tmp 28) (.tmp 32) rfl (w.heap.size+1) (.slice A0 (Fd f 0).length c0') (Fd f 0) rfl Hown.out 0 0 (I64.of (by omega) (by omega)) (I64.of (by omega) (by omega)) (by omega) rfl (by omega) ?_);intro v1 w1 hown1 hblk hbel;obtain ⟨A1,c1,rfl⟩:=hown1.form)
      have H1:=Lib.hid hown1
      have Hk:=Lib.hid hblk
      have Hl:=Lib.hid hbel
      clear hown1 hblk hbel
      go_wp2_with fail
      refine ⟨⟨1,by omega,by go_num,?_,Hk.out _ _ _ (by omega) hB,Hl.out w (by omega) hb⟩,by simp [intOf]⟩
      rw [Hstep.out]
      exact H1.out
     ·rcases Nat.eq_zero_or_pos n with rfl | hpos
      ·go_wp2_with (at_builtin;(refine Pw (wr:=wr) rfl (.tmp 28) (.tmp 32) rfl (w.heap.size+1) (.slice A0 (Fd f 0).length c0') (Fd f 0) rfl Hown.out 0 0 (I64.of (by omega) (by omega)) (I64.of (by omega) (by omega)) (by omega) rfl (by omega) ?_);intro v1 w1 hown1 hblk hbel;obtain ⟨A1,c1,rfl⟩:=hown1.form)
       have H1:=Lib.hid hown1
       have Hk:=Lib.hid hblk
       have Hl:=Lib.hid hbel
       clear hown1 hblk hbel
       go_wp2_with fail
       refine ⟨⟨1,by omega,by go_num,?_,Hk.out _ _ _ (by omega) hB,Hl.out w (by omega) hb⟩,by simp [intOf]⟩
       rw [Hstep.out]
       exact H1.out
      ·obtain ⟨p,rfl⟩ : ∃ p,n=p+1:=⟨n - 1,by omega⟩
       have c1:=(hB.cell p).trans (Dv (by omega))
       simp only [Nat.add_sub_cancel] at hg0
       simp only [hg0] at c1
       clear hg0
       go_wp2_with (at_builtin;(refine Pw (wr:=wr) rfl (.tmp 28) (.tmp 32) rfl (w.heap.size+1) (.slice A0 (Fd f (p+1)).length c0') (Fd f (p+1)) rfl Hown.out ((p:Int)+1) ((p:Int)+1) (I64.of (by omega) (by omega)) (I64.of (by omega) (by omega)) (by omega) rfl (by omega) ?_);intro v1 w1 hown1 hblk hbel;obtain ⟨A1,c1,rfl⟩:=hown1.form)
       have H1:=Lib.hid hown1
       have Hk:=Lib.hid hblk
       have Hl:=Lib.hid hbel
       clear hown1 hblk hbel
       go_wp2_with fail
       refine ⟨⟨p+1+1,by omega,by go_num,?_,Hk.out _ _ _ (by omega) hB,Hl.out w (by omega) hb⟩,by simp [intOf];omega⟩
       rw [Hstep.out,show ((p+1:Nat):Int)=(p:Int)+1 by omega]
       simpa using H1.out
  ·obtain rfl:n=256:=by omega
   have Hown:=Lib.hid hown
   obtain ⟨A0,c0',rfl⟩:=hown.form
   clear hown
   go_wp2_with fail
   go_ret
   exact ⟨⟨_,rfl,Hown.out.base (by omega)⟩,hb⟩
end Go.Proofs.YtahgkllhbggmgaaGreatDoor
