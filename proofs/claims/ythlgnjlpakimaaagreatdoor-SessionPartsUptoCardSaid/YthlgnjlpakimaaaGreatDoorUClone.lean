/- Contracts of slices.Clone, one for each element type. -/
import Derived.Test.YthlgnjlpakimaaaGreatDoorUMsg
import Derived.Test.YthlgnjlpakimaaaGreatDoorUMarks
set_option linter.all false
set_option linter.unnecessarySimpa false
set_option linter.unusedSimpArgs false
set_option linter.unusedVariables false
namespace Go.Proofs.YthlgnjlpakimaaaGreatDoor
open Go.ChangeShapes Go.WideShapes Go.ChangeAt Go.RowKit
theorem Ba7:∀ cs x,Df cs x->∀ u∈cs,u.oneCell'=true:=by
 rintro cs x ⟨rfl,_⟩ u hu;simp at hu;rcases hu with rfl | rfl<;>rfl
theorem B18:∀ cs x,Fu cs x->∀ u∈cs,u.oneCell'=true:=by
 rintro cs x ⟨rfl,_⟩ u hu;simp at hu;rcases hu with rfl | rfl<;>rfl
theorem B17:∀ cs x,Sh cs x->∀ u∈cs,u.oneCell'=true:=by
 rintro cs x ⟨rfl,_⟩ u hu;simp at hu;rcases hu with rfl | rfl | rfl | rfl<;>rfl
theorem Sl.one {α:Type} {R:List Value->α->Prop} {k:Nat} {w:World} {B:Nat} {v:Value} {l:List α} (h:Sl R k w B v l):v.oneCell'=true:=by
 obtain ⟨A,c,rfl,_⟩:=h;rfl
theorem Bh4:∀ w cs x,Aa8 w w.heap.size cs x->∀ u∈cs,u.oneCell'=true:=by
 rintro w cs x ⟨v,rfl,_,_,_,hv⟩ u hu;simp at hu;rcases hu with rfl | rfl | rfl | rfl | rfl | rfl | rfl<;>first | rfl | exact hv.one
theorem Bh5:∀ w cs x,Ab0 w w.heap.size cs x->∀ u∈cs,u.oneCell'=true:=by
 rintro w cs x ⟨v,rfl,_,_,_,_,hv⟩ u hu;simp at hu;rcases hu with rfl | rfl | rfl | rfl | rfl<;>first | rfl | exact hv.one
theorem Bq5:B66 (fun w=>Ab0 w w.heap.size):=fun _ _ _ _ he ⟨v,e,h1,h2,h3,h4,hv⟩=>⟨v,e,h1,h2,h3,h4,hv.ext (fun _ _ h=>h) he⟩
theorem A72 {w:World} {B:Nat} {v:Value} {l:List Out} (h:Wl w B v l) {m:Nat} {x:Out} (hx:l[m]? = some x) :
  ∃ b off c vi,v=.slice (some ⟨b,off,none⟩) l.length c/\b < B/\w.cell? ⟨b,off+m*5,none⟩=some (.int .i64 x.to_)/\w.cell? ⟨b,off+m*5+1,none⟩=some (.int .i64 x.session) /\
   w.cell? ⟨b,off+m*5+2,none⟩=some vi/\w.cell? ⟨b,off+m*5+3,none⟩=some (.int .i64 x.at_)/\w.cell? ⟨b,off+m*5+4,none⟩=some (.int .i64 x.seq)/\Co w B vi x.interest/\I64 x.to_/\I64 x.session/\I64 x.at_/\I64 x.seq:=by
 obtain ⟨A,c,rfl,_,_,h3⟩:=h
 obtain ⟨b,off,rfl,hb,h4⟩:=h3 (by rintro rfl;simp at hx)
 obtain ⟨cs,⟨vi,rfl,i1,i2,i3,i4,hv⟩,_,h5⟩:=h4 m x hx
 exact ⟨b,off,c,vi,rfl,hb,h5 0 _ rfl,h5 1 _ rfl,h5 2 _ rfl,h5 3 _ rfl,h5 4 _ rfl,hv,i1,i2,i3,i4⟩
theorem A95:B66 (fun w=>Aa8 w w.heap.size):=fun _ _ _ _ he ⟨v,e,h1,h2,h3,hv⟩=>⟨v,e,h1,h2,h3,hv.ext (fun _ _ h=>h) he⟩
theorem Kh {α:Type} {R:List Value->α->Prop} {k:Nat} (w:World) (e:TypeId):Ae R k (w.alloc (.cells #[] e)) w.heap.size e (.slice (some ⟨w.heap.size,0,none⟩) 0 0) [] :=
 ⟨[],⟨by simp,.inr ⟨_,0,#[],rfl,Nat.le_refl _,heap_alloc_new w _,Nat.le_refl _,Nat.zero_le _,by simp,by simp⟩⟩,rfl,Nat.zero_le _⟩
theorem Ai9:(Tryz.prog.info? 66).map (fun i=>(i.zero.map (·.cells.size),i.size,i.bytes))=some (some 2,2,16):=by kernel_rfl
theorem Yy (l:List Ad) (v:Value) (w:World) (h:Co w w.heap.size v l) :
  Calls Tryz.prog 166 #[v] w fun e w'=>(∃ v',e=.returned v'/\Ae Df 2 w' w.heap.size 66 v' l)/\Below w.heap.size w w':=by
 have hle:=h.len_le
 obtain ⟨i0,z0,hi,hz0,hzs,hz1,hz2⟩:=P6 Ai9
 obtain ⟨A,c,rfl,-,-,hne⟩:=id h
 have he:=fun (w:World) (a:Option Addr) (n c:Nat)=>Lib.run_eql_slice_nil (P:=Tryz.prog) w 35 66 a n c 0 0 Tryz.underlying35
 cases A with
 | none =>
  obtain rfl:l=[]:=by
   rcases l with _ | ⟨y,l⟩
   ·rfl
   ·obtain ⟨b,off,h1,_⟩:=hne (by simp)
    cases h1
  clear hne h
  go_enter Tryz.func166,Tryz.ntmps166
  go_wp2_with fail
  go_ret
  exact ⟨⟨_,rfl,Ae.nil_ _ _ _⟩,Below.refl _ _⟩
 | some A =>
  have HH:=Lib.hid h
  clear hne h
  go_enter Tryz.func166,Tryz.ntmps166
  go_wp2_with (at_builtin;refine Dh _ (Ba7) rfl (.tmp 5) (.tmp 6) 35 rfl w.heap.size 66 i0 _ 16 Tryz.underlying35 hi hz0 hz1 hz2 hzs (by omega) _ [] rfl (Kh (R:=Df) (k:=2) w 66) w.heap.size _ l rfl (HH.out.keep (fun _ _ h=>h) (Nat.le_refl _) (fun p hp=>World.cell?_alloc_lt _ _ _ hp)) (by simp only [List.length_nil];omega) (by omega) (by simp) ?_;intro v1 w1 hown hgr hat)
  simp only [List.nil_append] at hown
  have hb1:Below w.heap.size w w1:=(Af (Below.refl _ _)).grown hgr (by simp) (fun k hk=>Nat.le_of_eq (Option.some.inj hk))
  have H1:=Lib.hid hown
  clear hown hgr hat hi hz0 hz1 hz2 hzs
  go_wp2_with fail
  go_ret
  exact ⟨⟨_,rfl,H1.out⟩,hb1⟩
theorem Ar6:(Tryz.prog.info? 149).map (fun i=>(i.zero.map (·.cells.size),i.size,i.bytes))=some (some 7,7,56):=by kernel_rfl
theorem B57 (l:List Sub) (v:Value) (V:World) (w:World) (hV:Ext V w) (h:M4 V V.heap.size v l) :
  Calls Tryz.prog 207 #[v] w fun e w'=>(∃ v',e=.returned v'/\Ae (Aa8 V V.heap.size) 7 w' w.heap.size 149 v' l)/\Below w.heap.size w w':=by
 have hle:=h.len_le
 obtain ⟨i0,z0,hi,hz0,hzs,hz1,hz2⟩:=P6 Ar6
 obtain ⟨A,c,rfl,-,-,hne⟩:=id h
 have he:=fun (w:World) (a:Option Addr) (n c:Nat)=>Lib.run_eql_slice_nil (P:=Tryz.prog) w 150 149 a n c 0 0 Tryz.underlying150
 cases A with
 | none =>
  obtain rfl:l=[]:=by
   rcases l with _ | ⟨y,l⟩
   ·rfl
   ·obtain ⟨b,off,h1,_⟩:=hne (by simp)
    cases h1
  clear hne h
  go_enter Tryz.func207,Tryz.ntmps207
  go_wp2_with fail
  go_ret
  exact ⟨⟨_,rfl,Ae.nil_ _ _ _⟩,Below.refl _ _⟩
 | some A =>
  have HH:=Lib.hid (Sl.ext h (fun _ _ h=>h) hV)
  clear hne h
  go_enter Tryz.func207,Tryz.ntmps207
  go_wp2_with (at_builtin;refine Dh _ (fun cs x h=>Bh4 _ cs x h) rfl (.tmp 5) (.tmp 6) 150 rfl w.heap.size 149 i0 _ 56 Tryz.underlying150 hi hz0 hz1 hz2 hzs (by omega) _ [] rfl (Kh (R:=(Aa8 V V.heap.size)) (k:=7) w 149) w.heap.size _ l rfl (HH.out.keep (fun _ _ h=>h) (Nat.le_refl _) (fun p hp=>World.cell?_alloc_lt _ _ _ hp)) (by simp only [List.length_nil];omega) (by omega) (by simp) ?_;intro v1 w1 hown hgr hat)
  simp only [List.nil_append] at hown
  have hb1:Below w.heap.size w w1:=(Af (Below.refl _ _)).grown hgr (by simp) (fun k hk=>Nat.le_of_eq (Option.some.inj hk))
  have H1:=Lib.hid hown
  clear hown hgr hat hi hz0 hz1 hz2 hzs
  go_wp2_with fail
  go_ret
  exact ⟨⟨_,rfl,H1.out⟩,hb1⟩
theorem Ar7:(Tryz.prog.info? 94).map (fun i=>(i.zero.map (·.cells.size),i.size,i.bytes))=some (some 5,5,56):=by kernel_rfl
theorem B58 (l:List Out) (v:Value) (V:World) (w:World) (hV:Ext V w) (h:Wl V V.heap.size v l) :
  Calls Tryz.prog 165 #[v] w fun e w'=>(∃ v',e=.returned v'/\Ae (Ab0 V V.heap.size) 5 w' w.heap.size 94 v' l)/\Below w.heap.size w w':=by
 have hle:=h.len_le
 obtain ⟨i0,z0,hi,hz0,hzs,hz1,hz2⟩:=P6 Ar7
 obtain ⟨A,c,rfl,-,-,hne⟩:=id h
 have he:=fun (w:World) (a:Option Addr) (n c:Nat)=>Lib.run_eql_slice_nil (P:=Tryz.prog) w 80 94 a n c 0 0 Tryz.underlying80
 cases A with
 | none =>
  obtain rfl:l=[]:=by
   rcases l with _ | ⟨y,l⟩
   ·rfl
   ·obtain ⟨b,off,h1,_⟩:=hne (by simp)
    cases h1
  clear hne h
  go_enter Tryz.func165,Tryz.ntmps165
  go_wp2_with fail
  go_ret
  exact ⟨⟨_,rfl,Ae.nil_ _ _ _⟩,Below.refl _ _⟩
 | some A =>
  have HH:=Lib.hid (Sl.ext h (fun _ _ h=>h) hV)
  clear hne h
  go_enter Tryz.func165,Tryz.ntmps165
  go_wp2_with (at_builtin;refine Dh _ (fun cs x h=>Bh5 _ cs x h) rfl (.tmp 5) (.tmp 6) 80 rfl w.heap.size 94 i0 _ 56 Tryz.underlying80 hi hz0 hz1 hz2 hzs (by omega) _ [] rfl (Kh (R:=(Ab0 V V.heap.size)) (k:=5) w 94) w.heap.size _ l rfl (HH.out.keep (fun _ _ h=>h) (Nat.le_refl _) (fun p hp=>World.cell?_alloc_lt _ _ _ hp)) (by simp only [List.length_nil];omega) (by omega) (by simp) ?_;intro v1 w1 hown hgr hat)
  simp only [List.nil_append] at hown
  have hb1:Below w.heap.size w w1:=(Af (Below.refl _ _)).grown hgr (by simp) (fun k hk=>Nat.le_of_eq (Option.some.inj hk))
  have H1:=Lib.hid hown
  clear hown hgr hat hi hz0 hz1 hz2 hzs
  go_wp2_with fail
  go_ret
  exact ⟨⟨_,rfl,H1.out⟩,hb1⟩
theorem A84:(Tryz.prog.info? 49).map (fun i=>(i.zero.map (·.cells.size),i.size,i.bytes))=some (some 4,4,32):=by kernel_rfl
theorem Al0 (l:List Aq) (v:Value) (w:World) (h:M1 w w.heap.size v l) :
  Calls Tryz.prog 48 #[v] w fun e w'=>(∃ v',e=.returned v'/\Ae Sh 4 w' w.heap.size 49 v' l)/\Below w.heap.size w w':=by
 have hle:=h.len_le
 obtain ⟨i0,z0,hi,hz0,hzs,hz1,hz2⟩:=P6 A84
 obtain ⟨A,c,rfl,-,-,hne⟩:=id h
 have he:=fun (w:World) (a:Option Addr) (n c:Nat)=>Lib.run_eql_slice_nil (P:=Tryz.prog) w 27 49 a n c 0 0 Tryz.underlying27
 cases A with
 | none =>
  obtain rfl:l=[]:=by
   rcases l with _ | ⟨y,l⟩
   ·rfl
   ·obtain ⟨b,off,h1,_⟩:=hne (by simp)
    cases h1
  clear hne h
  go_enter Tryz.func48,Tryz.ntmps48
  go_wp2_with fail
  go_ret
  exact ⟨⟨_,rfl,Ae.nil_ _ _ _⟩,Below.refl _ _⟩
 | some A =>
  have HH:=Lib.hid h
  clear hne h
  go_enter Tryz.func48,Tryz.ntmps48
  go_wp2_with (at_builtin;refine Dh _ (B17) rfl (.tmp 5) (.tmp 6) 27 rfl w.heap.size 49 i0 _ 32 Tryz.underlying27 hi hz0 hz1 hz2 hzs (by omega) _ [] rfl (Kh (R:=Sh) (k:=4) w 49) w.heap.size _ l rfl (HH.out.keep (fun _ _ h=>h) (Nat.le_refl _) (fun p hp=>World.cell?_alloc_lt _ _ _ hp)) (by simp only [List.length_nil];omega) (by omega) (by simp) ?_;intro v1 w1 hown hgr hat)
  simp only [List.nil_append] at hown
  have hb1:Below w.heap.size w w1:=(Af (Below.refl _ _)).grown hgr (by simp) (fun k hk=>Nat.le_of_eq (Option.some.inj hk))
  have H1:=Lib.hid hown
  clear hown hgr hat hi hz0 hz1 hz2 hzs
  go_wp2_with fail
  go_ret
  exact ⟨⟨_,rfl,H1.out⟩,hb1⟩
theorem A85:(Tryz.prog.info? 42).map (fun i=>(i.zero.map (·.cells.size),i.size,i.bytes))=some (some 2,2,16):=by kernel_rfl
theorem Al1 (l:List Ab) (v:Value) (w:World) (h:C0 w w.heap.size v l) :
  Calls Tryz.prog 66 #[v] w fun e w'=>(∃ v',e=.returned v'/\Ae Fu 2 w' w.heap.size 42 v' l)/\Below w.heap.size w w':=by
 have hle:=h.len_le
 obtain ⟨i0,z0,hi,hz0,hzs,hz1,hz2⟩:=P6 A85
 obtain ⟨A,c,rfl,-,-,hne⟩:=id h
 have he:=fun (w:World) (a:Option Addr) (n c:Nat)=>Lib.run_eql_slice_nil (P:=Tryz.prog) w 25 42 a n c 0 0 Tryz.underlying25
 cases A with
 | none =>
  obtain rfl:l=[]:=by
   rcases l with _ | ⟨y,l⟩
   ·rfl
   ·obtain ⟨b,off,h1,_⟩:=hne (by simp)
    cases h1
  clear hne h
  go_enter Tryz.func66,Tryz.ntmps66
  go_wp2_with fail
  go_ret
  exact ⟨⟨_,rfl,Ae.nil_ _ _ _⟩,Below.refl _ _⟩
 | some A =>
  have HH:=Lib.hid h
  clear hne h
  go_enter Tryz.func66,Tryz.ntmps66
  go_wp2_with (at_builtin;refine Dh _ (B18) rfl (.tmp 5) (.tmp 6) 25 rfl w.heap.size 42 i0 _ 16 Tryz.underlying25 hi hz0 hz1 hz2 hzs (by omega) _ [] rfl (Kh (R:=Fu) (k:=2) w 42) w.heap.size _ l rfl (HH.out.keep (fun _ _ h=>h) (Nat.le_refl _) (fun p hp=>World.cell?_alloc_lt _ _ _ hp)) (by simp only [List.length_nil];omega) (by omega) (by simp) ?_;intro v1 w1 hown hgr hat)
  simp only [List.nil_append] at hown
  have hb1:Below w.heap.size w w1:=(Af (Below.refl _ _)).grown hgr (by simp) (fun k hk=>Nat.le_of_eq (Option.some.inj hk))
  have H1:=Lib.hid hown
  clear hown hgr hat hi hz0 hz1 hz2 hzs
  go_wp2_with fail
  go_ret
  exact ⟨⟨_,rfl,H1.out⟩,hb1⟩
end Go.Proofs.YthlgnjlpakimaaaGreatDoor
