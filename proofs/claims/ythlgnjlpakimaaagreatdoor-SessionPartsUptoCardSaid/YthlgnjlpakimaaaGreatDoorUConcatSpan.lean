/- Contracts of slices.Grow of nil, and slices.Concat, at []telltale/api.Span. -/
import Derived.Test.YthlgnjlpakimaaaGreatDoorUSpanSet
import Derived.Test.YthlgnjlpakimaaaGreatDoorUFlat
import Derived.Test.YthlgnjlpakimaaaGreatDoorUSortWorld
import Derived.Lib.AppendZeros
set_option linter.all false
set_option linter.unnecessarySimpa false
set_option linter.unusedSimpArgs false
set_option linter.unusedVariables false
namespace Go.Proofs.YthlgnjlpakimaaaGreatDoor
open Go.ChangeShapes Go.WideShapes Go.ChangeAt Go.RowKit
theorem A33:(Tryz.prog.info? 66).map (fun i=>(i.zero.map (·.cells.size),i.size,i.bytes))=some (some 2,2,16):=by kernel_rfl
theorem Bc6 (n:Nat) (w:World) (hn:n<=1073741824) :
  Calls Tryz.prog 217 #[.slice none 0 0,.int .i64 n] w fun e w'=>(∃ v,e=.returned v/\Ae Df 2 w' w.heap.size 66 v [])/\Below w.heap.size w w':=by
 rcases Nat.eq_zero_or_pos n with rfl | hpos
 ·go_enter Tryz.func217,Tryz.ntmps217
  go_wp2_with fail
  go_ret
  exact ⟨⟨_,rfl,Ae.nil_ _ _ _⟩,Below.refl _ _⟩
 ·obtain ⟨i0,z0,hi0,hz0,hzs,hz1,hz2⟩:=P6 A33
  have hr:=fun ty=>Lib.run_append_nil_zeros (P:=Tryz.prog) w 35 3 ty 66 i0 z0 .i64 .i64 Tryz.underlying35 Tryz.underlying3 hi0 hz0 n hpos (by omega) (by omega) (by rw [hz2];omega)
  have hG1:=grownCap_ge w n 0 66
  have hG2:=grownCap_le_maxLen w n 0 66 (by unfold maxLen;omega)
  generalize grownCap w n 0 66=G at *
  have hsz:(Builtin.zeroCells z0.cells n++Builtin.zeroCells z0.cells (G - n)).size=G*2:=by
   simp only [Array.size_append,Builtin.zeroCells,Array.size_map,Array.size_range,hzs]
   omega
  have hB:Blk (w.drew.alloc (.cells (Builtin.zeroCells z0.cells n++Builtin.zeroCells z0.cells (G - n)) 66)) w.heap.size 66 (Builtin.zeroCells z0.cells n++Builtin.zeroCells z0.cells (G - n)):=Blk.new w.drew _ _
  have hb:Below w.heap.size w (w.drew.alloc (.cells (Builtin.zeroCells z0.cells n++Builtin.zeroCells z0.cells (G - n)) 66)):=Af (Below.refl _ w).drew
  have hown:Ae Df 2 (w.drew.alloc (.cells (Builtin.zeroCells z0.cells n++Builtin.zeroCells z0.cells (G - n)) 66)) w.heap.size 66 (.slice (some ⟨w.heap.size,0,none⟩) 0 G) [] :=
   Ae.shut (Nat.le_refl _) hB rfl (Nat.zero_le _) hG2 hsz (by simp) (by simp only [List.length_nil,Nat.zero_mul,List.take_zero];exact rfl)
  generalize w.drew.alloc _=W at *
  have HR:=Lib.hid hr
  have HO:=Lib.hid hown
  have hp2:(0:Int) < (n:Int):=by omega
  unfold maxLen at hG2
  have hG3:(n:Int)<=(G:Int):=by omega
  have hG4:(0:Int)<=(G:Int):=by omega
  clear hr hB hown hsz hi0 hz0 hzs hz1 hz2
  go_enter Tryz.func217,Tryz.ntmps217
  go_wp2_with (at_builtin;refine Lib.wpList_append_run _ rfl (.tmp 20) (.tmp 21) 35 3 rfl _ _ rfl rfl _ _ (HR.out _) ?_)
  go_ret
  exact ⟨⟨_,rfl,HO.out⟩,hb⟩
def Aa9 (w:World) (B:Nat) (cs:List Value) (l:List Ad):Prop:=∃ v,cs=[v]/\Sl Df 2 w B v l
abbrev Jp (w:World) (B:Nat):=Sl (Aa9 w B) 1 w B
theorem Jp.next {w w':World} {v:Value} {ls:List (List Ad)} (h:Jp w w.heap.size v ls) (hb:Below w.heap.size w w'):Jp w' w'.heap.size v ls :=
 h.ext (fun _ _ ⟨v,e,h⟩=>⟨v,e,h.ext (fun _ _ h=>h) (Ext.of_below hb)⟩) (Ext.of_below hb)
theorem S5 {w:World} {B:Nat} {v:Value} {ls:List (List Ad)} (h:Jp w B v ls) {m:Nat} {x:List Ad} (hx:ls[m]? = some x) :
  ∃ b off c vi,v=.slice (some ⟨b,off,none⟩) ls.length c/\b < B/\w.cell? ⟨b,off+m,none⟩=some vi/\Sl Df 2 w B vi x:=by
 obtain ⟨A,c,rfl,_,_,h3⟩:=h
 obtain ⟨b,off,rfl,hb,h4⟩:=h3 (by rintro rfl;simp at hx)
 obtain ⟨cs,⟨vi,rfl,hs⟩,_,h5⟩:=h4 m x hx
 have:=h5 0 vi rfl
 rw [Nat.mul_one,Nat.add_zero] at this
 exact ⟨b,off,c,vi,rfl,hb,this,hs⟩
def Dr (ls:List (List Ad)):Nat:=(ls.map List.length).sum
theorem Sv {ls:List (List Ad)} {m:Nat} {x:List Ad} (h:ls[m]? = some x):Dr (ls.take (m+1))=Dr (ls.take m)+x.length:=by
 rw [Cu h];simp [Dr]
theorem Xf (ls:List (List Ad)) (m:Nat):Dr (ls.take m)<=Dr ls:=by
  have h:((ls.take m++ls.drop m).map List.length).sum=((ls.take m).map List.length).sum+((ls.drop m).map List.length).sum:=by rw [List.map_append,List.sum_append]
  rw [List.take_append_drop] at h
  unfold Dr
  omega
theorem A91 (ls:List (List Ad)):ls.flatten.length=Dr ls:=by simp [Dr,List.length_flatten]
set_option maxRecDepth 100000 in
set_option maxHeartbeats 1600000 in
theorem At5 (ls:List (List Ad)) (v:Value) (w:World) (h:Jp w w.heap.size v ls) (hsum:Dr ls<=1073741824) :
  Calls Tryz.prog 190 #[v] w fun e w'=>(∃ v',e=.returned v'/\Ae Df 2 w' w.heap.size 66 v' ls.flatten)/\Below w.heap.size w w':=by
 have hle:=h.len_le
 have HH:=Lib.hid h
 obtain ⟨A,c,rfl,-⟩:=id h
 clear h
 go_enter Tryz.func190,Tryz.ntmps190
 go_wp2_with fail
 go_loopw [3,11] (fun q k wr=>∃ m:Nat,m<=ls.length/\k=.int .i64 m/\q=.int .i64 (Dr (ls.take m))/\wr=w) (fun _ k _=>ls.length - (intOf k).toNat)
 case atStart=>exact ⟨0,Nat.zero_le _,rfl,rfl,rfl⟩
 case round =>
  rename_i q0 k0
  obtain ⟨m,hm,rfl,rfl,rfl⟩:=hrel
  obtain ⟨W0,rfl⟩ : ∃ W0:World,W0=wr:=⟨_,rfl⟩
  by_cases hlt:m < ls.length
  ·obtain ⟨x,hx⟩ : ∃ x,ls[m]? = some x:=⟨ls[m],List.getElem?_eq_getElem hlt⟩
   obtain ⟨b,off,_,vi,hv',hbb,e0,hs⟩:=S5 HH.out hx
   injection hv' with hv1 hv2 hv3
   subst hv1
   obtain ⟨A1,c1,rfl,-⟩:=id hs
   have HT:=Lib.hid (Sv hx)
   have hb1:=Xf ls (m+1)
   rw [HT.out] at hb1
   generalize Dr (ls.take m)=S at *
   have i1:(m:Int) < (ls.length:Int):=by omega
   have i2:(0:Int)<=(m:Int):=by omega
   have hw1:IntKind.i64.wrap ((S:Int)+(x.length:Int))=(S:Int)+(x.length:Int):=IntWalk.i64_in _ (by omega)
   have hn1:¬ ((S:Int)+(x.length:Int) < 0):=by omega
   clear hv2 hv3 hx hs
   go_wp2_with fail
   exact ⟨⟨m+1,by omega,by go_num,by rw [HT.out];simp,trivial⟩,by simp [intOf];omega⟩
  ·obtain rfl:m=ls.length:=by omega
   rw [List.take_length]
   have HG:=Lib.hid (Bc6 (Dr ls) W0 hsum)
   generalize hS:Dr ls=S at *
   have HS:=Lib.hid hS
   clear hS
   go_wp2_with fail
   refine HG.out.mono ?_
   rintro e w1 ⟨⟨v1,rfl,hown⟩,hb1⟩
   have HO:=Lib.hid hown
   clear hown HG
   go_wp2_with fail
   go_loopw [6,27] (fun o k w2=>∃ m:Nat,m<=ls.length/\k=.int .i64 m/\Ae Df 2 w2 W0.heap.size 66 o (ls.take m).flatten/\Below W0.heap.size W0 w2) (fun _ k _=>ls.length - (intOf k).toNat)
   case atStart=>exact ⟨0,Nat.zero_le _,rfl,HO.out,hb1⟩
   case round =>
    rename_i o0 k0
    obtain ⟨n,hn,rfl,hown,hb⟩:=hrel
    by_cases hlt2:n < ls.length
    ·obtain ⟨x,hx⟩ : ∃ x,ls[n]? = some x:=⟨ls[n],List.getElem?_eq_getElem hlt2⟩
     obtain ⟨b,off,_,vi,hv',hbb,e0,hs⟩:=S5 (HH.out.next hb) hx
     injection hv' with hv1 hv2 hv3
     subst hv1
     have HT:=Lib.hid (show (ls.take (n+1)).flatten=(ls.take n).flatten++x by rw [Cu hx];simp)
     have hl1:=A91 (ls.take n)
     have hl2:=Sv hx
     have hl3:=Xf ls (n+1)
     rw [HS.out] at hl3
     have hbound:(ls.take n).flatten.length+x.length<=1073741824:=by omega
     have HSX:=Lib.hid hs
     have HO2:=Lib.hid hown
     have Hb:=Lib.hid hb
     have hlt0:=hown.lt
     have hbs:=hb.size
     have i1:(n:Int) < (ls.length:Int):=by omega
     have i2:(0:Int)<=(n:Int):=by omega
     clear hv2 hv3 hx hs hown hb hl1 hl2 hl3
     go_wp2_with (at_builtin;refine V8 A33 Tryz.underlying35 (by omega) (by omega) Hr rfl (.tmp 31) (.tmp 32) rfl W0.heap.size _ _ rfl HO2.out _ _ x rfl HSX.out hbound (by omega) ?_;intro v' w' h1 h2 h3)
     have HO3:=Lib.hid h1
     have hb3:Below W0.heap.size W0 w':=Hb.out.grown h2 hbs (fun k hk=>(hlt0 k hk).1)
     clear h1 h2 h3
     go_wp2_with fail
     exact ⟨⟨n+1,by omega,by go_num,by rw [HT.out];exact HO3.out,hb3⟩,by simp [intOf];omega⟩
    ·obtain rfl:n=ls.length:=by omega
     rw [List.take_length] at hown
     have HO3:=Lib.hid hown
     clear hown
     go_wp2_with fail
     go_ret
     exact ⟨⟨_,rfl,HO3.out⟩,hb⟩
end Go.Proofs.YthlgnjlpakimaaaGreatDoor
