/- Writes are put into a shelf (the program's). -/
import Derived.Test.YthlgnjlpakimaaaGreatDoorQConcatSpan
import Derived.Test.YthlgnjlpakimaaaGreatDoorQClone
import Derived.Test.YthlgnjlpakimaaaGreatDoorQTurnRow
import Derived.Test.YthlgnjlpakimaaaGreatDoorQPutLaw
import Derived.Test.YthlgnjlpakimaaaGreatDoorQLogAll
import Derived.Test.YthlgnjlpakimaaaGreatDoorQRefMrg
set_option linter.all false
set_option linter.unnecessarySimpa false
set_option linter.unusedSimpArgs false
set_option linter.unusedVariables false
namespace Go.Proofs.YthlgnjlpakimaaaGreatDoor
open Go.ChangeShapes Go.WideShapes Go.ChangeAt Go.RowKit
set_option maxRecDepth 100000 in
set_option maxHeartbeats 1600000 in
theorem Bb3 {α:Type} {R:List Value->α->Prop} (h1:∀ cs x,R cs x->∀ u∈cs,u.oneCell'=true) (l:List α) (i:Nat) (y:α) (v:Value) (w:World) (base gx:Nat) (xs:Array Value) (cx:Nat) (ys:List Value) (h:Ah R 4 w base 49 v l)
  (hbase:base<=w.heap.size) (hB:Blk w gx 49 xs) (hc:xs.size=cx*4) (hcx:1<=cx) (hcm2:cx<=maxLen) (hyl:ys.length=4) (hyx:∀ (j:Nat) u,ys[j]? = some u->xs[j]? = some u) (hR:R ys y) (hgx:v.ownBlock≠some gx) (hi:i<=l.length) (hbig:l.length < 1073741824) :
  Calls Tryz.prog 134 #[v,.int .i64 i,.slice (some ⟨gx,0,none⟩) 1 cx] w (Cg9 R 4 49 base v (l.take i++y :: l.drop i) w):=by
 obtain ⟨i0,z0,hi0,hz0,hzs,hz1,hz2⟩:=Lc Tq
 have hone:Sl R 4 w w.heap.size (.slice (some ⟨gx,0,none⟩) 1 cx) [y]:=⟨_,cx,rfl,⟨by simpa using hcx,by simp⟩,hcm2,fun _=>⟨gx,0,rfl,hB.lt,fun i x hx=>by
  match i,hx with
  | 0,hx =>
   simp at hx
   subst hx
   exact ⟨ys,hR,hyl,fun j u hj=>by rw [Nat.zero_mul,Nat.add_zero,Nat.zero_add,hB.cell];exact hyx j u hj⟩
  | i+1,hx=>simp at hx⟩⟩
 generalize hL:l.take i++y :: l.drop i=L
 have HL:=Lib.hid hL
 clear hL
 have H:=Lib.hid h
 have HONE:=Lib.hid hone
 have HB:=Lib.hid hB
 clear hone
 by_cases hend:i=l.length
 ·subst hend
  have HE:=Lib.hid (show L=l++[y] by rw [<-HL.out];simp)
  have hnn:(((l.length:Nat):Int)==(l.length:Int))=true:=by simp
  obtain ⟨A,c,rfl⟩:=h.form
  rcases h.forms with ⟨hv,rfl⟩ | ⟨g,c1,hv,hg1,hg2⟩
  ·injection hv with hv1 hv2 hv3
   subst hv1 hv3
   clear h hB hgx
   simp only [List.length_nil] at *
   go_enter Tryz.func134,Tryz.ntmps134
   go_wp2_with (at_builtin;refine D0 _ h1 rfl (.tmp 23) (.tmp 24) 27 rfl base 49 i0 _ 32 Tryz.underlying27 hi0 hz0 hz1 hz2 hzs (by omega) _ [] rfl H.out w.heap.size _ [y] rfl HONE.out (by simp) (by omega) hbase ?_;intro v1 w1 hown hgr hat)
   have H1:=Lib.hid hown
   have H2:=Lib.hid hgr
   have H3:=Lib.hid hat
   clear hown hgr hat hi0 hz0 hzs hz1 hz2
   go_wp2_with fail
   go_ret
   exact ⟨_,rfl,by rw [HE.out];exact H1.out,H2.out,H3.out.imp id fun h=>⟨_,h,Nat.le_refl _⟩⟩
  ·injection hv with hv1 hv2 hv3
   subst hv1 hv3
   obtain ⟨cur,-,-,-,hnc,hcm,-,-,-⟩:=h.open_
   unfold maxLen at hcm
   clear h hB hgx
   go_enter Tryz.func134,Tryz.ntmps134
   go_wp2_with (at_builtin;refine D0 _ h1 rfl (.tmp 23) (.tmp 24) 27 rfl base 49 i0 _ 32 Tryz.underlying27 hi0 hz0 hz1 hz2 hzs (by omega) _ l rfl H.out w.heap.size _ [y] rfl HONE.out (by simp;omega) (by omega) hbase ?_;intro v1 w1 hown hgr hat)
   all_goals
    have H1:=Lib.hid hown
    have H2:=Lib.hid hgr
    have H3:=Lib.hid hat
    clear hown hgr hat hi0 hz0 hzs hz1 hz2
    go_wp2_with fail
    go_ret
    exact ⟨_,rfl,by rw [HE.out];exact H1.out,H2.out,H3.out.imp id fun h=>⟨_,h,Nat.le_refl _⟩⟩
 ·rcases h.forms with ⟨rfl,rfl⟩ | ⟨g,c,rfl,hg1,hg2⟩
  ·simp only [List.length_nil] at hi hend;omega
  obtain ⟨cur,-,-,hBk,hnc,hcm,hcs,-,hch⟩:=h.open_
  obtain ⟨hA,hBm⟩:=hch.split i hi
  have hXl:=hch.length
  have hAl:=hA.length
  have hBl:=hBm.length
  rw [show (l.take i).length=i by simp;omega] at hAl
  rw [show (l.drop i).length=l.length - i by simp] at hBl
  have hcell:∀ j u,(cur.toList.take (l.length*4))[j]? = some u->w.cell? ⟨g,j,none⟩=some u:=fun j u hj=>by
   rw [hBk.cell j]
   rw [List.getElem?_take] at hj
   split at hj
   ·simpa using hj
   ·cases hj
  generalize hX:cur.toList.take (l.length*4)=X at hA hBm hXl hAl hBl hcell
  have hAc:∀ j u,(X.take (i*4))[j]? = some u->w.cell? ⟨g,j,none⟩=some u:=fun j u hj=>by
   rw [List.getElem?_take] at hj
   split at hj
   ·exact hcell j u hj
   ·cases hj
  have hBc:∀ j u,(X.drop (i*4))[j]? = some u->w.cell? ⟨g,i*4+j,none⟩=some u:=fun j u hj=>by
   rw [List.getElem?_drop] at hj
   exact hcell _ u hj
  have hgn:g≠gx:=fun e=>hgx (by rw [e];rfl)
  have hone1:∀ v∈ys,v.oneCell'=true:=h1 _ _ hR
  have hone2:∀ v∈X.drop (i*4),v.oneCell'=true:=hBm.one_cell h1
  have HCH:Hid (∀ Z:List Value,Bw R 4 ((X.take (i*4)++ys++X.drop (i*4)++Z).take ((l.length+1)*4)) L):=fun Z=>by
   have e:(X.take (i*4)++ys++X.drop (i*4)).length=(l.length+1)*4:=by simp only [List.length_append,hAl,hBl,hyl];omega
   rw [<-e,List.take_left',<-HL.out,List.append_assoc]
   ·exact hA.append ((Bw.one hyl hR:Bw R 4 ys [y]).append hBm)
   ·rfl
  have hszE:(Tryz.prog.info? 49).map (·.size)=some 4:=by rw [hi0];simp [hz1]
  generalize hAA:X.take (i*4)=A at hA hAl hAc HCH
  generalize hBB:X.drop (i*4)=Bm at hBm hBl hBc hone2 HCH
  have hilt:i < l.length:=by omega
  have hz2':¬ ((i:Int)=(l.length:Int)):=by omega
  have HLN:Hid (L.length=l.length+1):=by
   show L.length=l.length+1
   rw [<-HL.out];simp;omega
  unfold maxLen at hcm
  by_cases hroom:l.length+1<=c
  ·have hcurA:cur.toList.take (i*4)=A:=by
    rw [<-hAA,<-hX,List.take_take,Nat.min_eq_left (by omega)]
   obtain ⟨C1,hC1⟩ : ∃ C1:Array Value,C1=(cur.toList.take ((i+1)*4)++Bm++cur.toList.drop ((i+1)*4+Bm.length)).toArray:=⟨_,rfl⟩
   have hC1s:C1.size=c*4:=by
    rw [hC1]
    simp only [List.size_toArray,List.length_append,List.length_take,List.length_drop,Array.length_toList,hcs,hBl]
    omega
   obtain ⟨C2,hC2⟩ : ∃ C2:Array Value,C2=(C1.toList.take (i*4)++ys++C1.toList.drop (i*4+ys.length)).toArray:=⟨_,rfl⟩
   have hC2s:C2.size=c*4:=by
    rw [hC2]
    simp only [List.size_toArray,List.length_append,List.length_take,List.length_drop,Array.length_toList,hC1s,hyl]
    omega
   have hfin:Bw R 4 (C2.toList.take (L.length*4)) L:=by
    have e1:(cur.toList.take ((i+1)*4)).length=i*4+4:=by simp only [List.length_take,Array.length_toList,hcs];omega
    have e2:C1.toList.take (i*4)=A:=by
     rw [hC1,<-hcurA]
     show List.take (i*4) (_++_++_)=_
     rw [List.append_assoc,List.take_append_of_le_length (by omega),List.take_take,Nat.min_eq_left (by omega)]
    have e3:C1.toList.drop (i*4+ys.length)=Bm++cur.toList.drop ((i+1)*4+Bm.length):=by
     rw [hC1,hyl]
     show List.drop (i*4+4) (_++_++_)=_
     rw [List.append_assoc,List.drop_left' e1]
    rw [hC2,HLN.out]
    show Bw R 4 (List.take _ (_++_++_)) L
    rw [e2,e3,<-List.append_assoc]
    exact HCH.out _
   have hov:∀ lb cb,(callFunc 196 #[.slice (some ⟨gx,0,none⟩) 1 cx,.slice (some ⟨g,(i+1)*4,none⟩) lb cb]).run Tryz.prog w=.ok (.value (.bool false)) w:=fun lb cb=>by
    rw [run_callFunc_extern Tryz.func196 (by kernel_rfl) (by kernel_rfl) (by kernel_rfl) (e:=Extern.SlicesOverlaps.overlaps #[27,27] #[4]) (by kernel_rfl),
     Lib.run_overlaps_apart w 27 4 49 Tryz.underlying27 4 (fun w=>by simp [sizeOf,typeInfo,hi0,hz1]) ⟨gx,0,none⟩ ⟨g,(i+1)*4,none⟩ 1 cx lb cb (Ne.symm hgn) 49 49 (cx*4) (c*4)
      (by have:=HB.out;unfold Blk at this;simp [World.shape?,this,hc]) (by have:=hBk;unfold Blk at this;simp [World.shape?,this,hcs]) (by omega) (HB.out.frozen 0) (HB.out.frozen (cx*4))]
    rfl
   have hcp1:∀ W:World,Blk W g 49 cur->∀ ty' dc sc,(Builtin.copy_ #[27,27] ty' #[.slice (some ⟨g,(i+1)*4,none⟩) (l.length+1 - (i+1)) dc,.slice (some ⟨g,i*4,none⟩) (l.length+1 - i) sc]).run Tryz.prog W=.ok (goInt (l.length - i:Nat)) (W.setRow g C1):=fun W hN ty' dc sc=>by
    rw [hC1]
    exact Nf 4 W _ _ ty' 49 g ((i+1)*4) (l.length+1 - (i+1)) dc ⟨g,i*4,none⟩ (l.length+1 - i) sc cur 49 Bm (l.length - i) Tryz.underlying27 hszE hN (by simp only [Nat.min_def];split<;>omega) hBl
     (fun j u hj=>by rw [Gr,hN.cell,<-hBk.cell];exact hBc j u hj) (by rw [hBl,hcs];omega) hone2
   have hcp2:∀ W:World,Blk W g 49 C1->Blk W gx 49 xs->∀ ty' dc,(Builtin.copy_ #[27,27] ty' #[.slice (some ⟨g,i*4,none⟩) (l.length+1 - i) dc,.slice (some ⟨gx,0,none⟩) 1 cx]).run Tryz.prog W=.ok (goInt 1) (W.setRow g C2):=fun W hN hx ty' dc=>by
    rw [hC2]
    exact Nf 4 W _ _ ty' 49 g (i*4) (l.length+1 - i) dc ⟨gx,0,none⟩ 1 cx C1 49 ys 1 Tryz.underlying27 hszE hN (by simp only [Nat.min_def];split<;>omega) (by simp [hyl])
     (fun j u hj=>by rw [Gr,Nat.zero_add,hx.cell j];exact hyx j u hj) (by simp only [hyl,hC1s];omega) hone1
   have hcp1:=Lib.hid hcp1
   have hcp2:=Lib.hid hcp2
   have hfin:=Lib.hid hfin
   have B1:=hBk.drew.setRow' (cs':=C1)
   have X1:=(HB.out.drew).farRow' (cs':=C1) (Ne.symm hgn)
   clear hC1 hC2 hcurA hX hAA hBB
   have hw1:IntKind.i64.wrap ((i:Int)+1)=(i:Int)+1:=IntWalk.i64_in _ (by omega)
   have hb1:(0:Int)<=(i:Int)+1:=by omega
   have htn:((i:Int)+1).toNat=i+1:=by omega
   have hGim:¬ (c=i+1):=by omega
   have hcin:¬ (c=i):=by omega
   have hb3:(i:Int)<=(l.length:Int)+1:=by omega
   have hb4:(i:Int)+1<=(l.length:Int)+1:=by omega
   have hb5:(l.length:Int)+1<=(c:Int):=by omega
   go_enter Tryz.func134,Tryz.ntmps134
   go_wp2_with (simp only [hov])
   go_region_law (refine Um rfl _ _ 27 27 rfl (.slice (some ⟨g,(i+1)*4,none⟩) (l.length+1 - (i+1)) (c - (i+1))) (.slice (some ⟨g,i*4,none⟩) (l.length+1 - i) (c - i)) (by simp [Act.eval,Act.put]) (by simp [Act.eval,Act.put]) (hcp1.out _ hBk.drew _ _ _) ?_)
   go_wp2_with (refine Rt _ rfl (.tmp 80) (.tmp 81) 27 27 rfl _ _ rfl rfl (hcp2.out _ B1 X1 _ _) ?_)
   go_ret
   exact ⟨.slice (some ⟨g,0,none⟩) (l.length+1) c,rfl,Ah.shut hg1 (B1.setRow' (cs':=C2)) HLN.out.symm (by rw [HLN.out];exact hroom) (by unfold maxLen;omega) hC2s (by rw [HLN.out];omega) hfin.out,
    (Ly (Ly (Ye w _) (Fo _ g C1)) (Fo _ g C2)),.inl rfl⟩
  ·obtain rfl:c=l.length:=by omega
   have hhold:(Builtin.firstCells i0.size i (.slice (some ⟨g,0,none⟩) i l.length)).run Tryz.prog w.drew=.ok A.toArray w.drew:=by
    rw [hz1]
    exact run_firstCells_some w.drew 4 i ⟨g,0,none⟩ i l.length A (by omega) (fun j u hj=>by rw [Gr,Nat.zero_add];exact hAc j u hj)
   have hkk:(l.length:Int)+1 - (i:Int)=((l.length+1 - i:Nat):Int):=by omega
   have hik:i+(l.length+1 - i)=l.length+1:=by omega
   have hrz:∀ ty',(Builtin.append_ #[27,3] ty' #[.slice (some ⟨g,0,none⟩) i l.length,.int .i64 ((l.length+1 - i:Nat):Int)]).run Tryz.prog w =
     .ok (.slice (some ⟨w.heap.size,0,none⟩) (l.length+1) (grownCap w (l.length+1) l.length 49)) (w.drew.alloc (.cells (A.toArray++Builtin.zeroCells z0.cells (l.length+1 - i)++Builtin.zeroCells z0.cells (grownCap w (l.length+1) l.length 49 - (l.length+1))) 49)):=fun ty'=>by
    have h:=Lib.run_append_grow_zeros w 27 3 ty' 49 i0 z0 .i64 .i64 Tryz.underlying27 Tryz.underlying3 hi0 hz0 (some ⟨g,0,none⟩) i l.length A hhold (l.length+1 - i) (by omega) (by omega) (by omega) (by omega) (by rw [hz2];omega) (by rw [hz2,hik];exact growslice_fits (by omega) (by omega))
    rw [hik] at h
    exact h
   obtain ⟨G,hG⟩ : ∃ G,G=grownCap w (l.length+1) l.length 49:=⟨_,rfl⟩
   have hGn:l.length+1<=G:=by rw [hG];exact grownCap_ge w _ _ _
   have hG63:G<=maxLen:=by rw [hG];exact grownCap_le_maxLen w _ _ _ (by unfold maxLen;omega)
   have hG64:G<=9223372036854775807:=by unfold maxLen at hG63;omega
   simp only [<-hG] at hrz
   obtain ⟨ROW,hROW⟩ : ∃ ROW:Array Value,ROW=A.toArray++Builtin.zeroCells z0.cells (l.length+1 - i)++Builtin.zeroCells z0.cells (G - (l.length+1)):=⟨_,rfl⟩
   simp only [<-hROW] at hrz
   have hRs:ROW.size=G*4:=by
    rw [hROW]
    simp only [Array.size_append,List.size_toArray,Builtin.zeroCells,Array.size_map,Array.size_range,hzs,hAl]
    omega
   have hRA:ROW.toList.take (i*4)=A:=by
    rw [hROW,<-hAl]
    simp
   obtain ⟨R1,hR1⟩ : ∃ R1:Array Value,R1=(ROW.toList.take (i*4)++ys++ROW.toList.drop (i*4+ys.length)).toArray:=⟨_,rfl⟩
   have hR1s:R1.size=G*4:=by
    rw [hR1]
    simp only [List.size_toArray,List.length_append,List.length_take,List.length_drop,Array.length_toList,hRs,hyl]
    omega
   have hR1A:R1.toList.take ((i+1)*4)=A++ys:=by
    rw [hR1,hRA]
    have e:(A++ys).length=(i+1)*4:=by simp only [List.length_append,hAl,hyl];omega
    exact List.take_left' e
   have hcpA:∀ W:World,Blk W w.heap.size 49 ROW->Blk W gx 49 xs->∀ ty' dc,(Builtin.copy_ #[27,27] ty' #[.slice (some ⟨w.heap.size,i*4,none⟩) (l.length+1 - i) dc,.slice (some ⟨gx,0,none⟩) 1 cx]).run Tryz.prog W=.ok (goInt 1) (W.setRow w.heap.size R1):=fun W hN hx ty' dc=>by
    rw [hR1]
    exact Nf 4 W _ _ ty' 49 w.heap.size (i*4) (l.length+1 - i) dc ⟨gx,0,none⟩ 1 cx ROW 49 ys 1 Tryz.underlying27 hszE hN (by simp only [Nat.min_def];split<;>omega) (by simp [hyl])
     (fun j u hj=>by rw [Gr,Nat.zero_add,hx.cell j];exact hyx j u hj) (by simp only [hyl,hRs];omega) hone1
   obtain ⟨R2,hR2⟩ : ∃ R2:Array Value,R2=(R1.toList.take ((i+1)*4)++Bm++R1.toList.drop ((i+1)*4+Bm.length)).toArray:=⟨_,rfl⟩
   have hR2s:R2.size=G*4:=by
    rw [hR2]
    simp only [List.size_toArray,List.length_append,List.length_take,List.length_drop,Array.length_toList,hR1s,hBl]
    omega
   have hfin:Bw R 4 (R2.toList.take (L.length*4)) L:=by
    rw [hR2,hR1A,HLN.out]
    exact HCH.out _
   have hcpB:∀ W:World,Blk W w.heap.size 49 R1->(∀ j u,Bm[j]? = some u->W.cell? ⟨g,i*4+j,none⟩=some u)->∀ ty' dc sc,(Builtin.copy_ #[27,27] ty' #[.slice (some ⟨w.heap.size,(i+1)*4,none⟩) (l.length+1 - (i+1)) dc,.slice (some ⟨g,i*4,none⟩) (l.length - i) sc]).run Tryz.prog W=.ok (goInt (l.length - i:Nat)) (W.setRow w.heap.size R2):=fun W hN hx ty' dc sc=>by
    rw [hR2]
    exact Nf 4 W _ _ ty' 49 w.heap.size ((i+1)*4) (l.length+1 - (i+1)) dc ⟨g,i*4,none⟩ (l.length - i) sc R1 49 Bm (l.length - i) Tryz.underlying27 hszE hN (by simp only [Nat.min_def];split<;>omega) hBl
     (fun j u hj=>by rw [Gr];exact hx j u hj) (by rw [hBl,hR1s];omega) hone2
   have hcpA:=Lib.hid hcpA
   have hcpB:=Lib.hid hcpB
   have hfin:=Lib.hid hfin
   have hrz:=Lib.hid hrz
   clear hhold hROW hG hR1 hR2 hR1A hRA
   go_enter Tryz.func134,Tryz.ntmps134
   have BN:=(Blk.new w 49 ROW).drew
   have BX:=((HB.out).alloc (o:=.cells ROW 49)).drew
   go_wp2_with (first
    | (at_builtin;refine Lib.wpList_append_run _ rfl _ _ _ _ rfl _ _ rfl rfl _ _ (hrz.out _) ?_)
    | (refine Rt _ rfl (.tmp 43) (.tmp 44) 27 27 rfl _ _ rfl rfl (hcpA.out _ BN BX _ _) ?_))
   have B1:=BN.setRow' (cs':=R1)
   have Bg:∀ j u,Bm[j]? = some u->((w.alloc (.cells ROW 49)).drew.setRow w.heap.size R1).cell? ⟨g,i*4+j,none⟩=some u:=fun j u hj=>by
    have:=((hBk.alloc (o:=.cells ROW 49)).drew).farRow' (cs':=R1) (show g≠w.heap.size by omega)
    rw [this.cell,<-hBk.cell]
    exact hBc j u hj
   have hw1:IntKind.i64.wrap ((i:Int)+1)=(i:Int)+1:=IntWalk.i64_in _ (by omega)
   have hb1:(0:Int)<=(i:Int)+1:=by omega
   have htn:((i:Int)+1).toNat=i+1:=by omega
   have hGim:¬ (G=i+1):=by omega
   have hcin:¬ (l.length=i):=by omega
   have hb3:(i:Int)<=(l.length:Int):=by omega
   have hb4:(i:Int)+1<=(l.length:Int)+1:=by omega
   go_region_law (refine Um rfl _ _ 27 27 rfl (.slice (some ⟨w.heap.size,(i+1)*4,none⟩) (l.length+1 - (i+1)) (G - (i+1))) (.slice (some ⟨g,i*4,none⟩) (l.length - i) (l.length - i)) (by simp [Act.eval,Act.put]) (by simp [Act.eval,Act.put]) (hcpB.out _ B1.drew (fun j u hj=>Bg j u hj) _ _ _) ?_)
   go_wp2_with fail
   go_ret
   exact ⟨.slice (some ⟨w.heap.size,0,none⟩) (l.length+1) G,rfl,Ah.shut hbase (B1.drew.setRow' (cs':=R2)) HLN.out.symm (by rw [HLN.out];exact hGn) hG63 hR2s (by rw [HLN.out];omega) hfin.out,
    Zz (A94 (Zz (A94 (World.grownBy_alloc w _ _)) (Nat.le_refl _) _)) (Nat.le_refl _) _,.inr ⟨w.heap.size,rfl,Nat.le_refl _⟩⟩
set_option maxRecDepth 100000 in
theorem C15 (l:List Ai) (i:Nat) (y:Ai) (hi:i<=l.length) (hbig:l.length < 1073741824):Fa Tryz.prog A8 134 [.own 1,.val (.int .i64 i),.own 3] (.own 0) [.row 3 49 4 [enW y],.row 1 49 4 (l.map enW)] [.row 0 49 4 ((l.take i++y :: l.drop i).map enW)] [] []:=by
 refine Fa.perm ?_ (List.Perm.swap _ _ _)
 refine Fa.row2 (r:=id) Tryz.func134 rfl (by kernel_rfl) (fun E X v' ⟨A,n,c,hv⟩ he=>by subst hv;exact .own he) fun X w E v vs base hX hb hG h h3 hdis hvs=>?_
 obtain ⟨u0,u1,rfl,q0,q1⟩ : ∃ u0 u1,vs=[u0,u1]/\Bp E X u0 (.val (.int .i64 i))/\Bp E X u1 (.own 3):=by
  obtain ⟨u0,vs',e,h1,h2⟩:=Au.cons_iff.1 hvs
  obtain ⟨u1,vs'',e',h1',h2'⟩:=Au.cons_iff.1 h2
  rw [Au.nil_iff.1 h2'] at e'
  exact ⟨u0,u1,by rw [e,e'],h1,h1'⟩
 cases q0
 cases q1 with
 | @own _ A n cc he =>
  rw [he] at h3 hdis
  rcases h3.forms with ⟨_,h0⟩ | ⟨gx,cx,hv,hg1,hg2⟩
  ·cases h0
  obtain ⟨cur,_,_,hB,hnc,hcm,hcs,_,hch⟩:=(hv ▸ h3).open_
  injection hv with e1 e2 e3
  subst e1 e2 e3
  obtain ⟨cs,rest,e,hk,hR,hr⟩:=hch
  obtain rfl:rest=[]:=hr
  rw [List.append_nil] at e
  have hlen:cs.length=4:=hk
  have hcall:=Bb3 (R:=Ba X) (fun cs x h=>Ba.one h) (l.map enW) i (enW y) v w base gx cur cc cs h hb hB hcs (by simpa using hnc) hcm hlen (fun j u hj=>by
   rw [<-e,List.getElem?_take] at hj
   split at hj
   ·simpa using hj
   ·cases hj) hR (fun e=>hdis gx e rfl) (by simpa using hi) (by simpa using hbig)
  refine hcall.mono ?_
  rintro e w' ⟨v',rfl,r1,r2,r3⟩
  refine ⟨v',rfl,?_,r2,r3.imp id .inr⟩
  have:(l.take i++y :: l.drop i).map enW=(l.map enW).take i++enW y :: (l.map enW).drop i:=by simp [List.map_take,List.map_drop]
  rw [this]
  exact r1
attribute [local irreducible] AW AWY Cd Bk vop C5 Bl Bz qop Cj Cv B4 Aw C4 A7 Bq
attribute [local go_sem] Eh Fc Jn Ao As
theorem A78 (f:Nat->Option Ai):∀ n,(Na f n).length<=n
 | 0=>Nat.le_refl _
 | n+1=>by
  have:=A78 f n
  have h2:(f n).toList.length<=1:=by cases f n<;>simp
  rw [Na,List.length_append]
  omega
theorem A36 {l:List Ai} (h:Shelf l):l.length<=256:=by
 rw [<-B50 h]
 exact A78 _ _
theorem Bx0 (a b:Ab):A7 Tryz.prog A8 135 [.agg [.val (.int .i64 a.count),.val (.int .i64 a.node)],.agg [.val (.int .i64 b.count),.val (.int .i64 b.node)]] (.val (.int .i64 (A06 a.count a.node b.count b.node))) [] :=
 C8 Tryz.func135 rfl (by kernel_rfl) fun V w E vs hV hG hr=>by
  obtain ⟨v0,v1,rfl,h0,h1⟩:=Js hr
  obtain rfl:=Px h0
  obtain rfl:=Px h1
  exact Av6 _ _ _ _ w
theorem Cu0 (l:List Ai):A7 Tryz.prog A8 136 [.iv (wrI l)] (.iv (wrI l)) []:=by
 refine A7.of (n:=9) (rs:=[.tmp 2]) Tryz.func136 rfl (by kernel_rfl) Tryz.ntmps136 (by kernel_rfl) (by simp) (fun _ _=>A8.later) ?_
 intro hok V w0
 refine g ?_
 repeat' refine st_ rfl (g ?_)
 refine ⟨0,l.length,rfl,rfl,by omega,by omega,l.length,rfl,by omega,by omega,?_⟩
 refine g ?_
 repeat' (first | refine st_ rfl (g ?_) | refine Ag (g ?_))
 rw [List.take_of_length_le (by simp)]
theorem C94:Cm (.tup [.val (.slice none 0 0),.val (.int .i64 1)]) (.tup [.iv (.sl 4 []),.val (.int .i64 1)]):=by
 refine G6 rfl fun p hp=>?_
 simp only [List.zip_cons_cons,List.zip_nil_right,List.mem_cons,List.not_mem_nil,or_false] at hp
 rcases hp with rfl | rfl
 ·exact Bf 4
 ·exact Cm.rfl_ _
set_option maxRecDepth 100000 in
set_option maxHeartbeats 1600000 in
theorem Bi7 (l list:List Ai):A7 Tryz.prog A8 51 [.iv (wrI l),.iv (wrI list)] (.tup [.iv (wrI (C95 l list).1),.val (.int .i64 (C95 l list).2)]) []:=by
 refine A7.ofS (n:=57) (rs:=[.tmp 4,.tmp 5]) Tryz.func51 rfl (by kernel_rfl) Tryz.ntmps51 (by kernel_rfl) (by simp) (fun _ _=>A8.later) ?_
 intro hok V w0
 have hlen:l.length<=1073741824:=by simpa [wrI] using hok.1.1
 have hlen2:list.length<=1073741824:=by simpa [wrI] using hok.2.1.1
 obtain ⟨R,hR⟩ : ∃ R,C95 l list=R:=⟨_,rfl⟩
 rw [hR]
 unfold C95 at hR
 refine g ?_
 repeat' (first | refine st_ rfl (g ?_) | refine C3 (fun h=>g ?_) (fun h=>g ?_) | refine A9 (Jl _) rfl (g ?_) | refine A9 (Vo _) rfl (g ?_))
 ·rw [if_neg (by rintro ⟨a,_⟩;simp [a] at h)] at hR
  subst hR
  exact C94
 have hF:Bv l=true:=by simpa using h
 have hSh:=Ge.1 hF
 refine AW.loop (fun m:{m:Nat // m<=list.length/\∀ w∈list.take m,Do w=true}=>⟨[(6,.own 1600),(16,.iv (wrI list)),(17,.val (.int .i64 (list.length:Nat))),(18,.val (.int .i64 (m.1:Nat)))],[.row 1600 49 4 ((Kr l (list.take m.1)).map enW)]⟩) (fun m=>list.length - m.1) ⟨0,Nat.zero_le _,fun w hw=>by simp at hw⟩ id ⟨⟨rfl,rfl,?_,rfl,trivial⟩,⟨rfl,trivial⟩,by simp [Aq,BA.id]⟩ fun ⟨m,hm,hr⟩=>?_
 ·simp [AV.ren,Cz]
 simp only
 have hQ:=Ll (list:=list.take m) hSh hr
 have hQl:=A36 hQ
 repeat (refine AW.seq ?_)
 refine AW.reg rfl fun KK hKK=>?_
 refine g ?_
 repeat' (refine hKK _ (g ?_);clear hKK KK)
 repeat (refine AW.seq ?_)
 refine st_ rfl ?_
 refine g ?_
 refine C3 (fun h=>?_) (fun h=>?_)
 ·have hlt:m < list.length:=by have:=of_decide_eq_true h;omega
  have hget:=C0 (f:=enW) (List.getElem?_eq_getElem hlt)
  obtain ⟨-,o1,o2,o3,-⟩:=D7 (by simpa [wrI] using hok.2.1.2) (enW list[m]) (List.mem_map_of_mem (List.getElem_mem hlt))
  have hsn:=By2 l (list.take m) list[m]
  have htk:=List.take_succ_eq_append_getElem hlt
  rw [<-htk] at hsn
  obtain ⟨w,hw⟩ : ∃ w,list[m]=w:=⟨_,rfl⟩
  rw [hw] at hsn hget o1 o2 o3 htk
  have hmem:w∈list:=hw ▸ List.getElem_mem hlt
  obtain ⟨Q,hQe⟩ : ∃ Q,Kr l (list.take m)=Q:=⟨_,rfl⟩
  rw [hQe] at hsn hQ hQl ⊢
  have hnext:∀ hrw:Do w=true,∀ x∈list.take (m+1),Do x=true:=fun hrw x hx=>by
   rw [htk] at hx
   rcases List.mem_append.1 hx with hx | hx
   ·exact hr x hx
   ·rw [List.mem_singleton.1 hx];exact hrw
  refine st_ rfl (g ?_)
  refine AW.seq ?_
  refine AW.block ?_
  repeat (refine AW.seq ?_)
  refine AW.reg rfl fun KK hKK=>?_
  refine g ?_
  refine ⟨by omega,_,hget,?_⟩
  refine g ?_
  repeat' (first | refine Ag (g ?_) | (refine hKK _ (g ?_);clear hKK KK))
  refine AW.freeze 900 _ rfl ⟨o1,o2,o3,trivial,trivial⟩ ?_
  simp only [go_sem,reduceIte,Nat.reduceEqDiff]
  refine g ?_
  repeat' (first | refine st_ rfl (g ?_) | refine C3 (fun h=>g ?_) (fun h=>g ?_) | refine A9 (A69 _) rfl (g ?_))
  ·rw [if_neg (by
    rintro ⟨_,b⟩
    rw [List.all_eq_true.1 b w hmem] at h
    cases h)] at hR
   subst hR
   exact C94
  have hrw:Do w=true:=by simpa using h
  have hin:=Mz hrw
  have hrise:=(R3 (Ge.2 hQ)).1
  unfold Lb at hsn
  refine Pb (T9 Q w.object hrise) (by simp [Wn]) rfl (fun _ h=>by cases h) (Sbs.rfl_ _) rfl ?_
  cases hg:D5 Q w.object with
  | none =>
   rw [hg] at hsn
   simp only at hsn
   have hpl:Fb Q w.object<=Q.length:=List.findIdx_le_length
   refine g ?_
   repeat' refine st_ rfl (g ?_)
   refine bs1 (by omega) rfl rfl rfl ⟨o1,o2,o3,trivial,trivial⟩ ?_
   refine g ?_
   refine Yk [] [] (fun b=>if b=1 then 1600 else 3900) (C15 Q (Fb Q w.object) w hpl (by omega)) rfl rfl rfl (g ?_)
   refine g ?_
   repeat' refine st_ rfl (g ?_)
   refine ⟨⟨m+1,hlt,hnext hrw⟩,fun b=>if b=1600 then 4000 else b,⟨⟨rfl,rfl,rfl,rfl,trivial⟩,⟨?_,trivial⟩,by simp [Aq,BA.id]⟩,by show list.length - (m+1) < list.length - m;omega⟩
   rw [hsn]
   rfl
  | some u =>
   rw [hg] at hsn
   simp only at hsn
   obtain ⟨hpl,hpe⟩:=B84 hQ hg
   have hget2:=C0 (f:=enW) (List.getElem?_eq_getElem hpl)
   rw [hpe] at hget2
   refine g ?_
   repeat' refine st_ rfl (g ?_)
   refine AW.drawn (ds:=[41,42,43,44,45,46,47,48,49,40]) (fin:=[0]) (bs:=[1,1,1,1,1,1,1,1,1,1]) [⟨[],[],[],[],0⟩,⟨[],[],[],[],0⟩,⟨[(41,0),(42,1)],[],[0],[],0⟩,⟨[(43,2)],[],[],[],0⟩,⟨[(44,3)],[],[0],[],0⟩,⟨[],[],[],[],0⟩,⟨[(46,5)],[],[0],[],0⟩,⟨[(45,4),(47,6)],[],[0],[],0⟩,⟨[(48,7)],[],[],[],0⟩,⟨[(49,8)],[],[],[],0⟩] (by kernel_rfl) rfl (by kernel_rfl) rfl rfl rfl fun KD hKD=>?_
   refine g ?_
   refine ⟨by omega,by simpa using hpl,?_⟩
   refine g ?_
   repeat' refine Ag (g ?_)
   refine ⟨_,hget2,?_⟩
   refine g ?_
   repeat' (first | refine st_ rfl (g ?_) | refine Ag (g ?_) | refine Az (fun h=>g ?_) (fun h=>g ?_) | (refine hKD _ _ ⟨rfl,g ?_⟩;clear hKD KD) | refine A9 (Bx0 u.stamp w.stamp) rfl (g ?_))
   ·refine ⟨by omega,hpl,?_⟩
    refine g ?_
    repeat' refine Ag (g ?_)
    refine ⟨_,_,rfl,⟨o1,o2,o3,trivial,trivial⟩,hget2,?_⟩
    refine g ?_
    repeat' (first | refine st_ rfl (g ?_) | refine Ag (g ?_))
    refine ⟨⟨m+1,hlt,hnext hrw⟩,id,⟨⟨rfl,rfl,rfl,rfl,trivial⟩,⟨?_,trivial⟩,by simp [Aq,BA.id]⟩,by show list.length - (m+1) < list.length - m;omega⟩
    have hnw:Gm u w=true:=decide_eq_true h
    rw [hsn,if_pos hnw]
    simp only [List.map_set]
    rfl
   ·refine ⟨⟨m+1,hlt,hnext hrw⟩,id,⟨⟨rfl,rfl,rfl,rfl,trivial⟩,⟨?_,trivial⟩,by simp [Aq,BA.id]⟩,by show list.length - (m+1) < list.length - m;omega⟩
    rw [hsn,if_neg (by rw [Gm,decide_eq_false h];decide)]
    rfl
 ·obtain rfl:m=list.length:=by have:=of_decide_eq_false h;omega
  rw [List.take_length] at *
  rw [if_pos ⟨hF,List.all_eq_true.2 hr⟩] at hR
  refine AW.exit ?_
  simp only [reduceIte]
  refine AW.freeze 1600 _ rfl trivial ?_
  simp only [go_sem,reduceIte,Nat.reduceEqDiff]
  refine g ?_
  repeat' (first | refine st_ rfl (g ?_) | refine A9 (Cu0 _) rfl (g ?_))
  subst hR
  exact Cm.rfl_ _
end Go.Proofs.YthlgnjlpakimaaaGreatDoor
