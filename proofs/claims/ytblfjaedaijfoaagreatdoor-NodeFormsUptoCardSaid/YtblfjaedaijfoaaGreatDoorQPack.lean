/- Numbers and rows laid behind bytes (the program's). -/
import Derived.Test.YtblfjaedaijfoaaGreatDoorQClone
import Derived.Test.YtblfjaedaijfoaaGreatDoorQStretch
import Derived.Test.YtblfjaedaijfoaaGreatDoorQNodeSpec
import Derived.Test.YtblfjaedaijfoaaGreatDoorQTurnRow
import Derived.Shelf.Spec.SlicesGrow
import Derived.Test.YtblfjaedaijfoaaGreatDoorQCrc
set_option linter.all false
set_option linter.unnecessarySimpa false
set_option linter.unusedSimpArgs false
set_option linter.unusedVariables false
namespace Go.Proofs.YtblfjaedaijfoaaGreatDoor
open Go.ChangeShapes Go.WideShapes Go.ChangeAt Go.RowKit
theorem Gj {P : Program} {G : World -> Prop} {f : FuncId} {fn : Func} {c : Code} {k T : Nat} {l : List (List IV)} (hf : P.funcs[f]? = some fn) (hb : fn.body = some c) (hname : (fn.name == "runtime.NumGoroutine") = false)
  (h:∀ (V w:World) (v:Value),Ext V w->Sl (Ay V) k V V.heap.size v l->Calls P f #[v] w fun e w'=>(∃ v',e=.returned v'/\Ah (Ay V) k w' w.heap.size T v' l)/\Below w.heap.size w w'):A7 P G f [.iv (.sl k l)] (.own 0) [.row 0 T k l] :=
 ⟨Ri hf hb hname,fun V w E vs hV hG hr=>by
  obtain ⟨v0,rfl,hv0⟩:=H6 hr
  have hs:Sl (Ay V) k V V.heap.size v0 l:=by cases hv0 with | iv h=>exact h.to_sl
  refine (h V w v0 hV hs).mono fun _ w' ⟨⟨v,he,hO⟩,hb⟩=>?_
  obtain ⟨A,n,cc,hv⟩ : ∃ A n cc,v=.slice A n cc:=by
   obtain ⟨A,cc,hv,_⟩:=hO.sl
   exact ⟨A,_,cc,hv⟩
  have ho:Ac ⟨fun _=>(v.ownBlock).getD 0,fun _=>v⟩ [.row 0 T k l]=v.ownBlock.toList:=by simp [Ac,BA.owned]
  refine ⟨v,⟨fun _=>(v.ownBlock).getD 0,fun _=>v⟩,he,hb,by rw [ho];cases v.ownBlock<;>simp,fun g hg=>by rw [ho,Option.mem_toList] at hg;exact (hO.lt g hg).1,fun b hb'=>?_,?_⟩
  ·simp only [List.mem_singleton] at hb'
   subst hb'
   refine ⟨hO.mono fun cs x h=>?_,fun g hg=>by simp [hg]⟩
   rw [ho]
   exact Ay.ext (Uh hV hb) h
  ·rw [hv]
   exact .own rfl⟩
theorem U3:(Tryz.prog.info? 5).map (fun i=>(i.zero.map (·.cells.size),i.size,i.bytes))=some (some 1,1,1):=by kernel_rfl
theorem Yf (l:List (List IV)) (v:Value) (V:World) (w:World) (hV:Ext V w) (h:Sl (Ay V) 1 V V.heap.size v l) :
  Calls Tryz.prog 155 #[v] w fun e w'=>(∃ v',e=.returned v'/\Ah (Ay V) 1 w' w.heap.size 5 v' l)/\Below w.heap.size w w':=by
 have hle:=h.len_le
 obtain ⟨i0,z0,hi,hz0,hzs,hz1,hz2⟩:=H5 U3
 obtain ⟨A,c,rfl,-,-,hne⟩:=id h
 have he:=fun (w:World) (a:Option Addr) (n c:Nat)=>Lib.run_eql_slice_nil (P:=Tryz.prog) w 47 5 a n c 0 0 Tryz.underlying47
 cases A with
 | none =>
  obtain rfl:l=[]:=by
   rcases l with _ | ⟨y,l⟩
   ·rfl
   ·obtain ⟨b,off,h1,_⟩:=hne (by simp)
    cases h1
  clear hne h
  go_enter Tryz.func155,Tryz.ntmps155
  go_wp2_with fail
  go_ret
  exact ⟨⟨_,rfl,Ah.nil_ _ _ _⟩,Below.refl _ _⟩
 | some A =>
  have HH:=Lib.hid (Sl.ext h (fun _ _ h=>h) hV)
  clear hne h
  go_enter Tryz.func155,Tryz.ntmps155
  go_wp2_with (at_builtin;refine Cb _ (fun cs x h=>Ay.one h) rfl (.tmp 5) (.tmp 6) 47 rfl w.heap.size 5 i0 _ 1 Tryz.underlying47 hi hz0 hz1 hz2 hzs (by omega) _ [] rfl (Eu (R:=(Ay V)) (k:=1) w 5) w.heap.size _ l rfl (HH.out.keep (fun _ _ h=>h) (Nat.le_refl _) (fun p hp=>World.cell?_alloc_lt _ _ _ hp)) (by simp only [List.length_nil];omega) (by omega) (by simp) ?_;intro v1 w1 hown hgr hat)
  simp only [List.nil_append] at hown
  have hb1:Below w.heap.size w w1:=(Ai (Below.refl _ _)).grown hgr (by simp) (fun k hk=>Nat.le_of_eq (Option.some.inj hk))
  have H1:=Lib.hid hown
  clear hown hgr hat hi hz0 hz1 hz2 hzs
  go_wp2_with fail
  go_ret
  exact ⟨⟨_,rfl,H1.out⟩,hb1⟩
theorem Aw8:(Tryz.prog.info? 79).map (fun i=>(i.zero.map (·.cells.size),i.size,i.bytes))=some (some 4,4,48):=by kernel_rfl
theorem Am9 (l:List (List IV)) (v:Value) (V:World) (w:World) (hV:Ext V w) (h:Sl (Ay V) 4 V V.heap.size v l) :
  Calls Tryz.prog 287 #[v] w fun e w'=>(∃ v',e=.returned v'/\Ah (Ay V) 4 w' w.heap.size 79 v' l)/\Below w.heap.size w w':=by
 have hle:=h.len_le
 obtain ⟨i0,z0,hi,hz0,hzs,hz1,hz2⟩:=H5 Aw8
 obtain ⟨A,c,rfl,-,-,hne⟩:=id h
 have he:=fun (w:World) (a:Option Addr) (n c:Nat)=>Lib.run_eql_slice_nil (P:=Tryz.prog) w 25 79 a n c 0 0 Tryz.underlying25
 cases A with
 | none =>
  obtain rfl:l=[]:=by
   rcases l with _ | ⟨y,l⟩
   ·rfl
   ·obtain ⟨b,off,h1,_⟩:=hne (by simp)
    cases h1
  clear hne h
  go_enter Tryz.func287,Tryz.ntmps287
  go_wp2_with fail
  go_ret
  exact ⟨⟨_,rfl,Ah.nil_ _ _ _⟩,Below.refl _ _⟩
 | some A =>
  have HH:=Lib.hid (Sl.ext h (fun _ _ h=>h) hV)
  clear hne h
  go_enter Tryz.func287,Tryz.ntmps287
  go_wp2_with (at_builtin;refine Cb _ (fun cs x h=>Ay.one h) rfl (.tmp 5) (.tmp 6) 25 rfl w.heap.size 79 i0 _ 48 Tryz.underlying25 hi hz0 hz1 hz2 hzs (by omega) _ [] rfl (Eu (R:=(Ay V)) (k:=4) w 79) w.heap.size _ l rfl (HH.out.keep (fun _ _ h=>h) (Nat.le_refl _) (fun p hp=>World.cell?_alloc_lt _ _ _ hp)) (by simp only [List.length_nil];omega) (by omega) (by simp) ?_;intro v1 w1 hown hgr hat)
  simp only [List.nil_append] at hown
  have hb1:Below w.heap.size w w1:=(Ai (Below.refl _ _)).grown hgr (by simp) (fun k hk=>Nat.le_of_eq (Option.some.inj hk))
  have H1:=Lib.hid hown
  clear hown hgr hat hi hz0 hz1 hz2 hzs
  go_wp2_with fail
  go_ret
  exact ⟨⟨_,rfl,H1.out⟩,hb1⟩
theorem Qa (l:List Nat):A7 Tryz.prog A8 155 [.iv (byI l)] (.iv (byI l)) [] :=
 (Gj (l:=l.map fun (b:Nat)=>[.val (.int .u8 b)]) Tryz.func155 rfl (by kernel_rfl) fun V w v hV h=>Yf _ v V w hV h).frz trivial
theorem Vu (l:List C1):A7 Tryz.prog A8 287 [.iv (boI l)] (.iv (boI l)) [] :=
 (Gj (l:=l.map enB) Tryz.func287 rfl (by kernel_rfl) fun V w v hV h=>Am9 _ v V w hV h).frz trivial
theorem Ba8:(Tryz.prog.info? 134).map (fun i=>(i.zero.map (·.cells.size),i.size,i.bytes))=some (some 3,3,40):=by kernel_rfl
theorem B06 (l:List (List IV)) (v:Value) (V:World) (w:World) (hV:Ext V w) (h:Sl (Ay V) 3 V V.heap.size v l) :
  Calls Tryz.prog 154 #[v] w fun e w'=>(∃ v',e=.returned v'/\Ah (Ay V) 3 w' w.heap.size 134 v' l)/\Below w.heap.size w w':=by
 have hle:=h.len_le
 obtain ⟨i0,z0,hi,hz0,hzs,hz1,hz2⟩:=H5 Ba8
 obtain ⟨A,c,rfl,-,-,hne⟩:=id h
 have he:=fun (w:World) (a:Option Addr) (n c:Nat)=>Lib.run_eql_slice_nil (P:=Tryz.prog) w 34 134 a n c 0 0 Tryz.underlying34
 cases A with
 | none =>
  obtain rfl:l=[]:=by
   rcases l with _ | ⟨y,l⟩
   ·rfl
   ·obtain ⟨b,off,h1,_⟩:=hne (by simp)
    cases h1
  clear hne h
  go_enter Tryz.func154,Tryz.ntmps154
  go_wp2_with fail
  go_ret
  exact ⟨⟨_,rfl,Ah.nil_ _ _ _⟩,Below.refl _ _⟩
 | some A =>
  have HH:=Lib.hid (Sl.ext h (fun _ _ h=>h) hV)
  clear hne h
  go_enter Tryz.func154,Tryz.ntmps154
  go_wp2_with (at_builtin;refine Cb _ (fun cs x h=>Ay.one h) rfl (.tmp 5) (.tmp 6) 34 rfl w.heap.size 134 i0 _ 40 Tryz.underlying34 hi hz0 hz1 hz2 hzs (by omega) _ [] rfl (Eu (R:=(Ay V)) (k:=3) w 134) w.heap.size _ l rfl (HH.out.keep (fun _ _ h=>h) (Nat.le_refl _) (fun p hp=>World.cell?_alloc_lt _ _ _ hp)) (by simp only [List.length_nil];omega) (by omega) (by simp) ?_;intro v1 w1 hown hgr hat)
  simp only [List.nil_append] at hown
  have hb1:Below w.heap.size w w1:=(Ai (Below.refl _ _)).grown hgr (by simp) (fun k hk=>Nat.le_of_eq (Option.some.inj hk))
  have H1:=Lib.hid hown
  clear hown hgr hat hi hz0 hz1 hz2 hzs
  go_wp2_with fail
  go_ret
  exact ⟨⟨_,rfl,H1.out⟩,hb1⟩
theorem Ba6:(Tryz.prog.info? 118).map (fun i=>(i.zero.map (·.cells.size),i.size,i.bytes))=some (some 7,7,56):=by kernel_rfl
theorem B04 (l:List (List IV)) (v:Value) (V:World) (w:World) (hV:Ext V w) (h:Sl (Ay V) 7 V V.heap.size v l) :
  Calls Tryz.prog 152 #[v] w fun e w'=>(∃ v',e=.returned v'/\Ah (Ay V) 7 w' w.heap.size 118 v' l)/\Below w.heap.size w w':=by
 have hle:=h.len_le
 obtain ⟨i0,z0,hi,hz0,hzs,hz1,hz2⟩:=H5 Ba6
 obtain ⟨A,c,rfl,-,-,hne⟩:=id h
 have he:=fun (w:World) (a:Option Addr) (n c:Nat)=>Lib.run_eql_slice_nil (P:=Tryz.prog) w 32 118 a n c 0 0 Tryz.underlying32
 cases A with
 | none =>
  obtain rfl:l=[]:=by
   rcases l with _ | ⟨y,l⟩
   ·rfl
   ·obtain ⟨b,off,h1,_⟩:=hne (by simp)
    cases h1
  clear hne h
  go_enter Tryz.func152,Tryz.ntmps152
  go_wp2_with fail
  go_ret
  exact ⟨⟨_,rfl,Ah.nil_ _ _ _⟩,Below.refl _ _⟩
 | some A =>
  have HH:=Lib.hid (Sl.ext h (fun _ _ h=>h) hV)
  clear hne h
  go_enter Tryz.func152,Tryz.ntmps152
  go_wp2_with (at_builtin;refine Cb _ (fun cs x h=>Ay.one h) rfl (.tmp 5) (.tmp 6) 32 rfl w.heap.size 118 i0 _ 56 Tryz.underlying32 hi hz0 hz1 hz2 hzs (by omega) _ [] rfl (Eu (R:=(Ay V)) (k:=7) w 118) w.heap.size _ l rfl (HH.out.keep (fun _ _ h=>h) (Nat.le_refl _) (fun p hp=>World.cell?_alloc_lt _ _ _ hp)) (by simp only [List.length_nil];omega) (by omega) (by simp) ?_;intro v1 w1 hown hgr hat)
  simp only [List.nil_append] at hown
  have hb1:Below w.heap.size w w1:=(Ai (Below.refl _ _)).grown hgr (by simp) (fun k hk=>Nat.le_of_eq (Option.some.inj hk))
  have H1:=Lib.hid hown
  clear hown hgr hat hi hz0 hz1 hz2 hzs
  go_wp2_with fail
  go_ret
  exact ⟨⟨_,rfl,H1.out⟩,hb1⟩
theorem Ba7:(Tryz.prog.info? 77).map (fun i=>(i.zero.map (·.cells.size),i.size,i.bytes))=some (some 5,5,56):=by kernel_rfl
theorem B05 (l:List (List IV)) (v:Value) (V:World) (w:World) (hV:Ext V w) (h:Sl (Ay V) 5 V V.heap.size v l) :
  Calls Tryz.prog 151 #[v] w fun e w'=>(∃ v',e=.returned v'/\Ah (Ay V) 5 w' w.heap.size 77 v' l)/\Below w.heap.size w w':=by
 have hle:=h.len_le
 obtain ⟨i0,z0,hi,hz0,hzs,hz1,hz2⟩:=H5 Ba7
 obtain ⟨A,c,rfl,-,-,hne⟩:=id h
 have he:=fun (w:World) (a:Option Addr) (n c:Nat)=>Lib.run_eql_slice_nil (P:=Tryz.prog) w 31 77 a n c 0 0 Tryz.underlying31
 cases A with
 | none =>
  obtain rfl:l=[]:=by
   rcases l with _ | ⟨y,l⟩
   ·rfl
   ·obtain ⟨b,off,h1,_⟩:=hne (by simp)
    cases h1
  clear hne h
  go_enter Tryz.func151,Tryz.ntmps151
  go_wp2_with fail
  go_ret
  exact ⟨⟨_,rfl,Ah.nil_ _ _ _⟩,Below.refl _ _⟩
 | some A =>
  have HH:=Lib.hid (Sl.ext h (fun _ _ h=>h) hV)
  clear hne h
  go_enter Tryz.func151,Tryz.ntmps151
  go_wp2_with (at_builtin;refine Cb _ (fun cs x h=>Ay.one h) rfl (.tmp 5) (.tmp 6) 31 rfl w.heap.size 77 i0 _ 56 Tryz.underlying31 hi hz0 hz1 hz2 hzs (by omega) _ [] rfl (Eu (R:=(Ay V)) (k:=5) w 77) w.heap.size _ l rfl (HH.out.keep (fun _ _ h=>h) (Nat.le_refl _) (fun p hp=>World.cell?_alloc_lt _ _ _ hp)) (by simp only [List.length_nil];omega) (by omega) (by simp) ?_;intro v1 w1 hown hgr hat)
  simp only [List.nil_append] at hown
  have hb1:Below w.heap.size w w1:=(Ai (Below.refl _ _)).grown hgr (by simp) (fun k hk=>Nat.le_of_eq (Option.some.inj hk))
  have H1:=Lib.hid hown
  clear hown hgr hat hi hz0 hz1 hz2 hzs
  go_wp2_with fail
  go_ret
  exact ⟨⟨_,rfl,H1.out⟩,hb1⟩
theorem Aw7:(Tryz.prog.info? 98).map (fun i=>(i.zero.map (·.cells.size),i.size,i.bytes))=some (some 4,4,96):=by kernel_rfl
theorem Am8 (l:List (List IV)) (v:Value) (V:World) (w:World) (hV:Ext V w) (h:Sl (Ay V) 4 V V.heap.size v l) :
  Calls Tryz.prog 224 #[v] w fun e w'=>(∃ v',e=.returned v'/\Ah (Ay V) 4 w' w.heap.size 98 v' l)/\Below w.heap.size w w':=by
 have hle:=h.len_le
 obtain ⟨i0,z0,hi,hz0,hzs,hz1,hz2⟩:=H5 Aw7
 obtain ⟨A,c,rfl,-,-,hne⟩:=id h
 have he:=fun (w:World) (a:Option Addr) (n c:Nat)=>Lib.run_eql_slice_nil (P:=Tryz.prog) w 28 98 a n c 0 0 Tryz.underlying28
 cases A with
 | none =>
  obtain rfl:l=[]:=by
   rcases l with _ | ⟨y,l⟩
   ·rfl
   ·obtain ⟨b,off,h1,_⟩:=hne (by simp)
    cases h1
  clear hne h
  go_enter Tryz.func224,Tryz.ntmps224
  go_wp2_with fail
  go_ret
  exact ⟨⟨_,rfl,Ah.nil_ _ _ _⟩,Below.refl _ _⟩
 | some A =>
  have HH:=Lib.hid (Sl.ext h (fun _ _ h=>h) hV)
  clear hne h
  go_enter Tryz.func224,Tryz.ntmps224
  go_wp2_with (at_builtin;refine Cb _ (fun cs x h=>Ay.one h) rfl (.tmp 5) (.tmp 6) 28 rfl w.heap.size 98 i0 _ 96 Tryz.underlying28 hi hz0 hz1 hz2 hzs (by omega) _ [] rfl (Eu (R:=(Ay V)) (k:=4) w 98) w.heap.size _ l rfl (HH.out.keep (fun _ _ h=>h) (Nat.le_refl _) (fun p hp=>World.cell?_alloc_lt _ _ _ hp)) (by simp only [List.length_nil];omega) (by omega) (by simp) ?_;intro v1 w1 hown hgr hat)
  simp only [List.nil_append] at hown
  have hb1:Below w.heap.size w w1:=(Ai (Below.refl _ _)).grown hgr (by simp) (fun k hk=>Nat.le_of_eq (Option.some.inj hk))
  have H1:=Lib.hid hown
  clear hown hgr hat hi hz0 hz1 hz2 hzs
  go_wp2_with fail
  go_ret
  exact ⟨⟨_,rfl,H1.out⟩,hb1⟩
theorem Ye (l:List F8):A7 Tryz.prog A8 154 [.iv (flI l)] (.own 0) [.row 0 134 3 (l.map enF)] :=
 Gj (l:=l.map enF) Tryz.func154 rfl (by kernel_rfl) fun V w v hV h=>B06 _ v V w hV h
theorem Am4 (l:List Sub):A7 Tryz.prog A8 152 [.iv (H9 l)] (.own 0) [.row 0 118 7 (l.map Vp)] :=
 Gj (l:=l.map Vp) Tryz.func152 rfl (by kernel_rfl) fun V w v hV h=>B04 _ v V w hV h
theorem Am7 (l:List Out):A7 Tryz.prog A8 151 [.iv (ouI l)] (.own 0) [.row 0 77 5 (l.map K3)] :=
 Gj (l:=l.map K3) Tryz.func151 rfl (by kernel_rfl) fun V w v hV h=>B05 _ v V w hV h
theorem B02 (l:List Bc):A7 Tryz.prog A8 224 [.iv (noI l)] (.own 0) [.row 0 98 4 (l.map enN)] :=
 Gj (l:=l.map enN) Tryz.func224 rfl (by kernel_rfl) fun V w v hV h=>Am8 _ v V w hV h
def Bh2:Go.Shelf.Ren:=⟨fun | 4=>324 | n=>n,fun | 0=>0 | 3=>3 | 4=>4 | 9=>9 | 20=>20 | 22=>47 | 25=>5 | n=>n,fun n=>n⟩
theorem C23:Go.Proofs.Lays8.n4 Tryz.prog Bh2:={
 mixed:=by kernel_rfl
 f4:=⟨Tryz.f324.name,by decide,Tryz.func324.trans (congrArg some (by kernel_rfl))⟩
 t0:=Tryz.underlying0
 a0:=Tryz.isAgg0
 z0:=Tryz.sizeOf0
 v0:=Tryz.zeroValue0
 t3:=Tryz.underlying3
 a3:=Tryz.isAgg3
 z3:=Tryz.sizeOf3
 v3:=Tryz.zeroValue3
 t4:=Tryz.underlying4
 a4:=Tryz.isAgg4
 z4:=Tryz.sizeOf4
 v4:=Tryz.zeroValue4
 t9:=Tryz.underlying9
 a9:=Tryz.isAgg9
 z9:=Tryz.sizeOf9
 v9:=Tryz.zeroValue9
 t20:=Tryz.underlying20
 a20:=Tryz.isAgg20
 z20:=Tryz.sizeOf20
 v20:=Tryz.zeroValue20
 t22:=Tryz.underlying47
 a22:=Tryz.isAgg47
 z22:=Tryz.sizeOf47
 v22:=Tryz.zeroValue47 }
theorem Ax6 (l:List (List IV)):Cg Tryz.prog A8 324 [.own 1,.val (.int .i64 9)] (.own 0) [.row 1 5 1 l] [.row 0 5 1 l] [] []:=by
 refine Cg.row (r:=id) Tryz.func324 rfl (by kernel_rfl) (fun E X v' ⟨A,n,c,hv⟩ he=>by subst hv;exact .own he) fun X w E v vs base hX hb hG h hdis hvs=>?_
 obtain ⟨u0,rfl,q0⟩ : ∃ u0,vs=[u0]/\Bd E X u0 (.val (.int .i64 9)):=by
  obtain ⟨u0,vs',e,h1,h2⟩:=Au.cons_iff.1 hvs
  exact ⟨u0,by rw [e,Au.nil_iff.1 h2],h1⟩
 cases q0
 obtain ⟨i0,z0,hi0,hz0,hzs,hz1,hz2⟩:=H5 U3
 have hbig:l.length<=1073741824:=by obtain ⟨_,_,_,h⟩:=h;exact h
 have grown:∀ (b0:Option Addr) (c:Nat) (cs:List Value),v=.slice b0 l.length c->l.length<=c->c<=maxLen->¬ l.length+9<=c->cs.length=c->(b0=none->c=0)->(∀ a,b0=some a->∀ j u,cs[j]? = some u->w.cell? (a.add j)=some u)->Bx (Ay X) 1 (cs.take l.length) l ->
   Calls Tryz.prog 324 [v,.int .i64 9].toArray w fun e w'=>∃ v',e=.returned (id v')/\B17 X 1 5 base v l w v' w':=by
  intro b0 c cs hv hlc hcm hroom hcl hnil hcs hch
  subst hv
  have hG1:=grownCap_ge w (l.length+9) c 5
  have hG2:=grownCap_le_maxLen w (l.length+9) c 5 (by unfold maxLen;omega)
  refine (Any8.slices_Grow_grow C23 i0 z0 hi0 hz0 (by rw [hz1];omega) b0 l.length c 9 cs w hlc (by omega) (by rw [hz2];omega) (by omega) (by rw [hz1,hcl,Nat.mul_one]) hnil hcs).mono ?_
  rintro e w' ⟨rfl,rfl⟩
  refine ⟨_,rfl,?_⟩
  have hG1':l.length+9<=grownCap w (l.length+9) c (Bh2.t 25):=hG1
  have hG2':grownCap w (l.length+9) c (Bh2.t 25)<=maxLen:=hG2
  generalize grownCap w (l.length+9) c (Bh2.t 25)=G at hG1' hG2'
  have hsz:(cs.toArray++Builtin.zeroCells z0.cells (l.length+9 - c)++Builtin.zeroCells z0.cells (G - (l.length+9))).size=G*1:=by
   simp only [Array.size_append,Builtin.zeroCells,Array.size_map,Array.size_range,hzs,List.size_toArray,hcl]
   omega
  exact ⟨Ah.shut hb (Blk.new w.drew _ _) rfl (by omega) hG2' hsz hbig (by
    simp only [Array.toList_append,List.append_assoc]
    rw [List.take_append_of_le_length (by simp only [Nat.mul_one];omega),Nat.mul_one]
    exact hch),Ax5 (World.grownBy_alloc w _ _),.inr (.inr ⟨_,rfl,Nat.le_refl _⟩)⟩
 rcases h.forms with ⟨hv,h0⟩ | ⟨g,c,hv,hg1,hg2⟩
 ·subst h0
  exact grown none 0 [] hv (Nat.le_refl _) (Nat.zero_le _) (by simp) rfl (fun _=>rfl) (fun a e=>by cases e) rfl
 ·obtain ⟨cur,_,_,hB,hnc,hcm,hcs,_,hch⟩:=(hv ▸ h).open_
  by_cases hroom:l.length+9<=c
  ·subst hv
   refine (Any8.slices_Grow_room C23 _ l.length c 9 w hnc (by unfold maxLen at hcm;omega) (by omega) hroom).mono ?_
   rintro e w' ⟨rfl,rfl⟩
   exact ⟨_,rfl,h,World.grownBy.refl _ _,.inl rfl⟩
  ·exact grown _ c cur.toList hv hnc hcm hroom (by simpa using hcs) (fun e=>by cases e) (fun a e j u hj=>by
    cases e
    rw [show (Addr.add ⟨g,0,none⟩ j)=⟨g,j,none⟩ by simp [Addr.add]<;>omega,hB.cell]
    simpa using hj) (by simpa using hch)
def byC (b:Nat):List IV:=[.val (.int .u8 (b:Int))]
theorem Af8 (l:List Nat):byI l=.sl 1 (l.map byC):=rfl
theorem Xf {b:Nat} (h:b < 256):okV (.int .u8 (b:Int)):=by
 show (Lit.int .u8 (b:Int)).wf=true
 simp [Lit.wf,IntKind.max,IntKind.min,IntKind.signed,IntKind.bits]
 omega
theorem D61:∀ b,b < 256->b|||128=b % 128+128:=by decide +kernel
theorem Cc3 (m:Nat):bits .or .u8 (((m % 256:Nat):Int)) 128=((m % 128+128:Nat):Int):=by
 have:=u8_or_nat (m % 256) 128 (by omega) (by omega)
 rw [show (128:Int)=((128:Nat):Int) from rfl,this,D61 _ (by omega)]
 omega
attribute [local irreducible] AW AWY Bo B4 vop Bj B7 Bf qop Bu C4 Aq Aj Bh A7 B9
attribute [local go_sem] Af8 Ae Af
theorem C41 (l:List Nat):A7 Tryz.prog A8 155 [.iv (byI l)] (.own 0) [.row 0 5 1 (l.map byC)] :=
 Gj (l:=l.map byC) Tryz.func155 rfl (by kernel_rfl) fun V w v hV h=>Yf _ v V w hV h
structure E17 (n:Nat) where
 done:List Nat
 m:Nat
 j:Nat
 h:Yp 8 n=done++Yp j m
 hm:m < 128 ^ (j+1)
 hj:done.length+j=8
set_option maxRecDepth 100000 in
set_option maxHeartbeats 1600000 in
theorem A65 (b:List Nat) (n:Nat) (hn:n < 9223372036854775808) (hb:b.length<=1000000000):A7 Tryz.prog A8 293 [.iv (byI b),.val (.int .i64 (n:Nat))] (.tup [.own 0,.val (.int .i64 0)]) [.row 0 5 1 ((b++Gh n).map byC)]:=by
 refine A7.of (n:=27) (rs:=[.tmp 4,.tmp 5]) Tryz.func293 rfl (by kernel_rfl) Tryz.ntmps293 (by kernel_rfl) (by simp) (fun _ _=>A8.later) ?_
 intro hok V w0
 refine g ?_
 repeat' (first | refine st_ rfl (g ?_) | refine A9 (C41 b) rfl (g ?_))
 refine Kq [] [] (fun _=>1100) (Ax6 _) rfl rfl rfl (g ?_)
 refine g ?_
 repeat' refine st_ rfl (g ?_)
 refine AW.loop (fun y:E17 n=>⟨[(1,.val (.int .i64 (y.m:Nat))),(6,.own 9900)],[.row 9900 5 1 ((b++y.done).map byC)]⟩) (fun y=>y.j) ⟨[],n,8,rfl,by simpa using hn,rfl⟩ (fun _=>1200) ⟨⟨rfl,rfl,trivial⟩,⟨?_,trivial⟩,by simp [By,BA.id]⟩ fun ⟨dn,m,j,hk,hm,hj⟩=>?_
 ·rw [List.append_nil];rfl
 simp only
 repeat (refine AW.seq ?_)
 refine AW.reg rfl fun KK hKK=>?_
 refine g ?_
 repeat' (refine hKK _ (g ?_);clear hKK KK)
 repeat (refine AW.seq ?_)
 refine st_ rfl ?_
 refine g ?_
 refine Al (fun h=>?_) (fun h=>?_)
 ·have hm2:128<=m:=by omega
  obtain ⟨j,rfl⟩ : ∃ i,j=i+1:=by
   cases j with
   | zero=>omega
   | succ i=>exact ⟨i,rfl⟩
  have hm63:m < 9223372036854775808:=by
   have:128 ^ (j+1+1)<=128 ^ 9:=Nat.pow_le_pow_right (by omega) (by omega)
   omega
  refine st_ rfl (g ?_)
  refine g ?_
  repeat' refine st_ rfl (g ?_)
  refine ⟨((m % 256:Nat):Int),by rw [IntKind.wrap_u8];omega,Bi (g ?_)⟩
  refine g ?_
  have e1:bits .or .u8 ((m:Int) % 256) 128=(m:Int) % 128+128:=by rw [show (m:Int) % 256=((m % 256:Nat):Int) by omega,Cc3 m];omega
  refine ⟨.int .u8 ((m % 128+128:Nat):Int),fun w=>by go_simp,?_⟩
  refine g ?_
  repeat' refine Bi (g ?_)
  refine bs1 (by omega) rfl rfl rfl ⟨Xf (by omega),trivial⟩ ?_
  refine g ?_
  refine Co rfl (by kernel_rfl) (by omega) (by kernel_rfl) rfl (by simp;omega) ?_
  refine g ?_
  repeat' refine st_ rfl (g ?_)
  refine ⟨.int .i64 ((m / 128:Nat):Int),fun w=>by rw [show (m:Int) / 2 ^ min 7 64=((m / 128:Nat):Int) from (by show (m:Int) / 128=_;omega)];rfl,?_⟩
  refine g ?_
  repeat' refine Bi (g ?_)
  refine ⟨⟨dn++[m % 128+128],m / 128,j,by rw [hk,Bo3 hm2,List.append_assoc];rfl,by rw [Nat.pow_succ] at hm;exact Nat.div_lt_of_lt_mul (by rw [Nat.mul_comm];exact hm),by simp;omega⟩,fun _=>2200,⟨⟨rfl,rfl,trivial⟩,⟨?_,trivial⟩,by simp [By]⟩,by show j < j+1;omega⟩
  show some (BA.row _ _ _ _)=some (BA.row _ _ _ ((b++(dn++[m % 128+128])).map byC))
  rw [<-List.append_assoc,List.map_append (l₁:=b++dn)]
  rfl
 ·refine AW.exit ?_
  simp only [reduceIte]
  refine g ?_
  repeat' refine st_ rfl (g ?_)
  refine ⟨(m:Int),by rw [IntKind.wrap_u8];omega,Bi (g ?_)⟩
  refine g ?_
  refine bs1 (by omega) rfl rfl rfl ⟨Xf (by omega),trivial⟩ ?_
  refine g ?_
  refine Co rfl (by kernel_rfl) (by omega) (by kernel_rfl) rfl (by simp;omega) ?_
  refine g ?_
  repeat' refine st_ rfl (g ?_)
  refine ⟨fun _=>2700,rfl,?_,by simp⟩
  have e:Gh n=dn++[m]:=by rw [Gh,hk,Bo4 (by omega)]
  rw [e,<-List.append_assoc,List.map_append (l₁:=b++dn)]
  rfl
theorem Ag5 (b:List Nat) (n:Nat) (hn:n < 9223372036854775808) (hb:b.length<=1000000000):A7 Tryz.prog A8 293 [.iv (byI b),.val (.int .i64 (n:Nat))] (.tup [.iv (byI (b++Gh n)),.val (.int .i64 0)]) []:=(A65 b n hn hb).frz trivial
theorem Ax0 (l:List Int):inI l=.sl 1 (l.map fun n=>[.val (.int .i64 n)]):=rfl
attribute [local go_sem] Ax0
theorem A23 {l:List Int} {m:Nat} (h:m < l.length):Gb (l.take (m+1))=Gb (l.take m)++Gh l[m].toNat:=by
 rw [List.take_succ_eq_append_getElem h,Gb,Gb,List.flatMap_append];simp
theorem J3:∀ (l:List Int),(Gb l).length<=9*l.length
 | []=>Nat.zero_le _
 | n :: l=>by
  have h1:=J3 l
  have h2:=Vd (k:=8) (n:=n.toNat)
  simp only [Gb,List.flatMap_cons,List.length_append,List.length_cons,Gh] at h1 h2 ⊢
  omega
set_option maxRecDepth 100000 in
theorem Kw (b:List Nat) (l:List Int) (h0:∀ n∈l,0<=n) (hl:l.length<=1000) (hb:b.length<=900000000):A7 Tryz.prog A8 295 [.iv (byI b),.iv (inI l)] (.iv (byI (b++Gb l))) []:=by
 refine A7.of (n:=21) (rs:=[.tmp 4]) Tryz.func295 rfl (by kernel_rfl) Tryz.ntmps295 (by kernel_rfl) (by simp) (fun _ _=>A8.later) ?_
 intro hok V w0
 refine g ?_
 repeat' refine st_ rfl (g ?_)
 refine AW.loop (fun m:{m:Nat // m<=l.length}=>⟨[(0,.iv (byI (b++Gb (l.take m.1)))),(7,.iv (inI l)),(8,.val (.int .i64 (l.length:Nat))),(9,.val (.int .i64 (m.1:Nat)))],[]⟩) (fun m=>l.length - m.1) ⟨0,Nat.zero_le _⟩ id ⟨⟨?_,rfl,rfl,rfl,trivial⟩,trivial,List.nodup_nil⟩ fun ⟨m,hm⟩=>?_
 ·simp [Gb];rfl
 simp only
 repeat (refine AW.seq ?_)
 refine AW.reg rfl fun KK hKK=>?_
 refine g ?_
 repeat' (refine hKK _ (g ?_);clear hKK KK)
 repeat (refine AW.seq ?_)
 refine st_ rfl ?_
 refine g ?_
 refine Al (fun h=>?_) (fun h=>?_)
 ·have hlt:m < l.length:=by omega
  have hn:=h0 l[m] (List.getElem_mem hlt)
  obtain ⟨-,o1,-⟩:=Do (by simpa [inI] using hok.2.1.2) [IV.val (.int .i64 l[m])] (List.mem_map_of_mem (f:=fun n:Int=>[IV.val (.int .i64 n)]) (List.getElem_mem hlt))
  have o2:=I64.hi o1
  have ht:=A23 hlt
  have hle:=J3 (l.take m)
  rw [List.length_take] at hle
  obtain ⟨k,hk⟩ : ∃ k:Nat,l[m]=(k:Int):=⟨l[m].toNat,by omega⟩
  rw [hk] at ht o2
  refine st_ rfl (g ?_)
  refine g ?_
  repeat' (first | refine st_ rfl (g ?_) | refine ix_ (by omega) (g ?_))
  rw [hk]
  refine g ?_
  repeat' (first | refine st_ rfl (g ?_) | refine A9 (Ag5 _ k (by omega) (by simp;omega)) rfl (g ?_))
  refine ⟨⟨m+1,hlt⟩,id,⟨⟨?_,rfl,rfl,rfl,trivial⟩,trivial,List.nodup_nil⟩,by show l.length - (m+1) < l.length - m;omega⟩
  rw [ht,Int.toNat_natCast,<-List.append_assoc]
  rfl
 ·refine AW.exit ?_
  simp only [reduceIte]
  refine g ?_
  repeat' refine st_ rfl (g ?_)
  rw [List.take_of_length_le (by omega)]
end Go.Proofs.YtblfjaedaijfoaaGreatDoor
