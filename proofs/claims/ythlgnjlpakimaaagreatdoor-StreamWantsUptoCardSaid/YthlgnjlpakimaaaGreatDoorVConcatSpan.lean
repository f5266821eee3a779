/- Contracts of slices.Grow of nil, and slices.Concat, at []telltale/api.Span. -/
import Derived.Test.YthlgnjlpakimaaaGreatDoorVMarks
import Derived.Laws.CopyRow
import Derived.Laws.Externs
import Derived.Lib.Overlaps
import Derived.Lib.AppendZerosOnto
import Derived.Deep.RegionLaw
import Derived.Test.YthlgnjlpakimaaaGreatDoorVSpanSet
import Derived.Test.YthlgnjlpakimaaaGreatDoorVFlat
import Derived.Lib.AppendZeros
set_option linter.all false
set_option linter.unnecessarySimpa false
set_option linter.unusedSimpArgs false
set_option linter.unusedVariables false
namespace Go.Proofs.YthlgnjlpakimaaaGreatDoor
open Go.ChangeShapes Go.WideShapes Go.ChangeAt Go.RowKit
section
variable {P : Program}
theorem L5 (k:Nat) (w:World) (dT sT ty elem:TypeId) (g o dLen dCap:Nat) (a:Addr) (sLen sCap:Nat) (cur:Array Value) (t:TypeId) (cs:List Value) (n:Nat)
  (hu:P.underlying dT=some (.slice elem)) (hs:(P.info? elem).map (·.size)=some k)
  (hg:w.heap[g]? = some (.cells cur t (0,0))) (hn:n=Nat.min sLen dLen) (hl:cs.length=n*k)
  (hsrc:∀ j v,cs[j]? = some v->w.cell? (a.add j)=some v) (hfit:o+cs.length<=cur.size) (h1:∀ v∈cs,v.oneCell'=true) :
  (Builtin.copy_ #[dT,sT] ty #[.slice (some ⟨g,o,none⟩) dLen dCap,.slice (some a) sLen sCap]).run P w =
   .ok (goInt n) (w.setRow g (cur.toList.take o++cs++cur.toList.drop (o+cs.length)).toArray):=by
 have h2:=run_loadCells_list (P:=P) w a cs hsrc
 rw [hl] at h2
 have hst:=run_storeCells_at P g o t cs 0 cur w hg (by simpa using hfit) h1
 cases hq:P.info? elem with
 | none=>simp [hq] at hs
 | some i =>
  have hi:i.size=k:=by simpa [hq] using hs
  simp [Builtin.copy_,run_underlying hu,Builtin.lenOf,Builtin.firstCells,sizeOf,typeInfo,hq,hi,<-hn,h2,hst]
theorem P0 (w:World) {ops:Array Oper} {rest:List Oper} {o:Oper} {a:Act} {Q:Exit->Act->World->Prop} (hgd:o.guard=none) (d s:Operand) (t t':TypeId)
  (ho:o.op=.call { callee:=.builtin .copy,args:=#[d,s],argTypes:=#[t,t'] }) (v u:Value) (hd:a.eval d=v) (hs:a.eval s=u) {v':Value} {w':World}
  (hr:(Builtin.copy_ #[t,t'] o.type #[v,u]).run P w=.ok v' w') (h:wpList P ops Q rest (a.put o.dst v') w'):wpList P ops Q (o :: rest) a w:=by
 refine wpList_plain hgd fun _ hK=>?_
 unfold Oper.wp execOp
 simp only [ho,resolve,invoke,builtin,Sem.run_bind,Sem.run_pure,Result.andThen_ok,List.map_toArray,List.map_cons,List.map_nil,hd,hs,hr]
 exact hK _ _ h
theorem Rn {ops:Array Oper} {o:Oper} {a:Act} {w:World} {K:Act->World->Prop} {Q:Exit->Act->World->Prop} {E:Prop}
  (hg:o.guard=none) (d x:Operand) (dT sT:TypeId) (hop:o.op=Op.call { callee:=Callee.builtin Builtin.copy,args:=#[d,x],argTypes:=#[dT,sT] })
  (v u:Value) (hd:a.eval d=v) (hx:a.eval x=u) {v':Value} {w':World} (hr:(Builtin.copy_ #[dT,sT] o.type #[v,u]).run P w=.ok v' w') (hK:K (a.put o.dst v') w') :
  if Region.wanted o (yielded ops a.tmps)=true then Oper.wp P o a w K Q else E:=by
 have hw:Region.wanted o (yielded ops a.tmps)=true:=by simp [Region.wanted,hg]
 rw [if_pos hw]
 unfold Oper.wp
 simp [execOp,hop,resolve,invoke,builtin,hd,hx,hr,Result.andThen]
 exact hK
theorem Ph {ops:Array Oper} {o:Oper} {a:Act} {w:World} {K:Act->World->Prop} {Q:Exit->Act->World->Prop} {E:Prop}
  (hg:o.guard=none) (d x:Operand) (dT sT:TypeId) (hop:o.op=Op.call { callee:=Callee.builtin Builtin.append,args:=#[d,x],argTypes:=#[dT,sT] })
  (v u:Value) (hd:a.eval d=v) (hx:a.eval x=u) {v':Value} {w':World} (hr:(Builtin.append_ #[dT,sT] o.type #[v,u]).run P w=.ok v' w') (hK:K (a.put o.dst v') w') :
  if Region.wanted o (yielded ops a.tmps)=true then Oper.wp P o a w K Q else E:=by
 have hw:Region.wanted o (yielded ops a.tmps)=true:=by simp [Region.wanted,hg]
 rw [if_pos hw]
 unfold Oper.wp
 simp [execOp,hop,resolve,invoke,builtin,hd,hx,hr,Result.andThen]
 exact hK
theorem Rq (k:Nat) (w:World) (t e ty:TypeId) (i:TypeInfo) (z:Value) (g o n c:Nat) (cur:Array Value) (T:TypeId) (ht:P.underlying t=some (.slice e)) (hi:P.info? e=some i) (hz:i.zero=some z) (hzs:z.cells.size=k) (hn:0 < n)
  (hg:w.heap[g]? = some (.cells cur T (0,0))) (hfit:o+n*k<=cur.size) (h1:∀ v∈z.cells,v.oneCell'=true) :
  (Builtin.clear_ #[t] ty #[.slice (some ⟨g,o,none⟩) n c]).run P w=.ok (.tuple #[]) (w.setRow g (cur.toList.take o++(Builtin.zeroCells z.cells n).toList++cur.toList.drop (o+n*k)).toArray):=by
 have hl:(Builtin.zeroCells z.cells n).toList.length=n*k:=by simp [Builtin.zeroCells,hzs]
 have h1':∀ v∈(Builtin.zeroCells z.cells n).toList,v.oneCell'=true:=by
  intro v hv
  simp only [Builtin.zeroCells,Array.toList_map,List.mem_map] at hv
  obtain ⟨j,hj,rfl⟩:=hv
  have hj':j < n*k:=by simpa [hzs] using hj
  have hk:0 < k:=by
   rcases Nat.eq_zero_or_pos k with rfl | h
   ·simp at hj'
   ·exact h
  have hlt:j % z.cells.size < z.cells.size:=Nat.mod_lt _ (by omega)
  rw [getElem!_pos z.cells _ hlt]
  exact h1 _ (Array.getElem_mem hlt)
 have hst:=run_storeCells_at P g o T (Builtin.zeroCells z.cells n).toList 0 cur w hg (by rw [hl];simpa using hfit) h1'
 rw [hl,Nat.add_zero] at hst
 obtain ⟨m,rfl⟩ : ∃ m,n=m+1:=⟨n - 1,by omega⟩
 simp [Builtin.clear_,run_underlying ht,zeroValue,typeInfo,hi,hz,hst]
theorem N3 (w:World) {ops:Array Oper} {rest:List Oper} {o:Oper} {a:Act} {Q:Exit->Act->World->Prop} (hgd:o.guard=none) (s:Operand) (t:TypeId)
  (ho:o.op=.call { callee:=.builtin .clear,args:=#[s],argTypes:=#[t] }) (v:Value) (hs:a.eval s=v) {v':Value} {w':World}
  (hr:(Builtin.clear_ #[t] o.type #[v]).run P w=.ok v' w') (h:wpList P ops Q rest (a.put o.dst v') w'):wpList P ops Q (o :: rest) a w:=by
 refine wpList_plain hgd fun _ hK=>?_
 unfold Oper.wp execOp
 simp only [ho,resolve,invoke,builtin,Sem.run_bind,Sem.run_pure,Result.andThen_ok,List.map_toArray,List.map_cons,List.map_nil,hs,hr]
 exact hK _ _ h
end
section
variable {α : Type} {R : List Value -> α -> Prop} {k : Nat}
theorem Bi.split:∀ {xs:List Value} {l:List α},Bi R k xs l->∀ i,i<=l.length->Bi R k (xs.take (i*k)) (l.take i)/\Bi R k (xs.drop (i*k)) (l.drop i)
 | xs,l,h,0,_=>by simp only [Nat.zero_mul,List.take_zero,List.drop_zero];exact ⟨rfl,h⟩
 | _,[],_,i+1,hi=>by simp at hi
 | _,y :: l,⟨cs,rest,e,hk,h1,h⟩,i+1,hi=>by
  obtain ⟨a,b⟩:=h.split i (by simpa using hi)
  subst e
  have e1:(i+1)*k=cs.length+i*k:=by rw [hk,Nat.add_mul];omega
  rw [e1,List.take_length_add_append,List.drop_length_add_append]
  exact ⟨⟨cs,_,rfl,hk,h1,a⟩,b⟩
theorem Af.open_ {w:World} {base:Nat} {e:TypeId} {g n c:Nat} {l:List α} (h:Af R k w base e (.slice (some ⟨g,0,none⟩) n c) l) :
  ∃ cur:Array Value,n=l.length/\base<=g/\Blk w g e cur/\l.length<=c/\c<=maxLen/\cur.size=c*k/\l.length<=1073741824/\Bi R k (cur.toList.take (l.length*k)) l:=by
 obtain ⟨xs,hown,hch,hbig⟩:=h
 rcases hown.2 with ⟨h1,_⟩ | ⟨g',cap,cur,h1,hb,hg,hnc,hcm,hcs,ht⟩
 ·cases h1
 ·injection h1 with h1 h2 h3
  injection h1 with h1
  injection h1 with h1
  subst h1 h2 h3
  rw [<-ht] at hch
  exact ⟨cur,rfl,hb,hg,hnc,hcm,hcs,hbig,hch⟩
theorem Af.shut {w:World} {base:Nat} {e:TypeId} {g n c:Nat} {cur:Array Value} {l:List α} (hb:base<=g) (hg:Blk w g e cur) (hn:n=l.length) (hnc:l.length<=c) (hcm:c<=maxLen) (hcs:cur.size=c*k) (hbig:l.length<=1073741824) (hch:Bi R k (cur.toList.take (l.length*k)) l) :
  Af R k w base e (.slice (some ⟨g,0,none⟩) n c) l:=by
 subst hn
 exact ⟨_,⟨by rw [hch.length],.inr ⟨g,c,cur,rfl,hb,hg,hnc,hcm,hcs,rfl⟩⟩,hch,hbig⟩
theorem Et (w:World) (g:Nat) (cs:Array Value):w.grownBy (w.setRow g cs) (some g) :=
 ⟨rfl,rfl,rfl,by simp [World.setRow],fun i _ hne=>by simp [World.setRow,Array.getElem?_modify,show ¬ g=i from fun e=>hne (by rw [e])]⟩
theorem Jw {a b c:World} {row:Option Nat} (h:a.grownBy b row) (h2:b.grownBy c row):a.grownBy c row :=
 ⟨h2.os.trans h.os,h2.tape.trans h.tape,h2.output.trans h.output,Nat.le_trans h.size h2.size,fun i hi hne=>(h2.block i (Nat.lt_of_lt_of_le hi h.size) hne).trans (h.block i hi hne)⟩
theorem Uk (w:World) (row:Option Nat):w.grownBy w.drew row:=⟨rfl,rfl,rfl,Nat.le_refl _,fun _ _ _=>rfl⟩
theorem Blk.setRow' {w:World} {g:Nat} {t:TypeId} {cs cs':Array Value} (h:Blk w g t cs):Blk (w.setRow g cs') g t cs':=by
 unfold Blk at h ⊢
 simp [World.setRow,Array.getElem?_modify,h]
theorem Blk.farRow' {w:World} {g g':Nat} {t:TypeId} {cs cs':Array Value} (h:Blk w g t cs) (hne:g≠g'):Blk (w.setRow g' cs') g t cs:=by
 unfold Blk at h ⊢
 simp [World.setRow,Array.getElem?_modify,h,Ne.symm hne]
end
theorem Vx {w w1:World} {row:Option Nat} (h:w.grownBy w1 row) {N:Nat} (hN:w.heap.size<=N) (cs:Array Value):w.grownBy (w1.setRow N cs) row :=
 ⟨h.os,h.tape,h.output,by simpa [World.setRow] using h.size,fun k hk hne=>(setRow_other w1 N k cs (by omega)).trans (h.block k hk hne)⟩
theorem Yj {w w1:World} {row:Option Nat} (h:w.grownBy w1 row):w.grownBy w1.drew row:=⟨h.os,h.tape,h.output,h.size,h.block⟩
def Bn8 {α:Type} (R:List Value->α->Prop) (k:Nat) (T:TypeId) (base:Nat) (v:Value) (l:List α) (w:World) (e:Ending) (w':World):Prop :=
 ∃ v',e=.returned v'/\Af R k w' base T v' l/\w.grownBy w' v.ownBlock/\(v'.ownBlock=v.ownBlock\/∃ g,v'.ownBlock=some g/\w.heap.size<=g)
theorem Ab2:(Tryz.prog.info? 66).map (fun i=>(i.zero.map (·.cells.size),i.size,i.bytes))=some (some 2,2,16):=by kernel_rfl
theorem Bk8 (n:Nat) (w:World) (hn:n<=1073741824) :
  Calls Tryz.prog 217 #[.slice none 0 0,.int .i64 n] w fun e w'=>(∃ v,e=.returned v/\Af Em 2 w' w.heap.size 66 v [])/\Below w.heap.size w w':=by
 rcases Nat.eq_zero_or_pos n with rfl | hpos
 ·go_enter Tryz.func217,Tryz.ntmps217
  go_wp2_with fail
  go_ret
  exact ⟨⟨_,rfl,Af.nil_ _ _ _⟩,Below.refl _ _⟩
 ·obtain ⟨i0,z0,hi0,hz0,hzs,hz1,hz2⟩:=M0 Ab2
  have hr:=fun ty=>Lib.run_append_nil_zeros (P:=Tryz.prog) w 35 3 ty 66 i0 z0 .i64 .i64 Tryz.underlying35 Tryz.underlying3 hi0 hz0 n hpos (by omega) (by omega) (by rw [hz2];omega)
  have hG1:=grownCap_ge w n 0 66
  have hG2:=grownCap_le_maxLen w n 0 66 (by unfold maxLen;omega)
  generalize grownCap w n 0 66=G at *
  have hsz:(Builtin.zeroCells z0.cells n++Builtin.zeroCells z0.cells (G - n)).size=G*2:=by
   simp only [Array.size_append,Builtin.zeroCells,Array.size_map,Array.size_range,hzs]
   omega
  have hB:Blk (w.drew.alloc (.cells (Builtin.zeroCells z0.cells n++Builtin.zeroCells z0.cells (G - n)) 66)) w.heap.size 66 (Builtin.zeroCells z0.cells n++Builtin.zeroCells z0.cells (G - n)):=Blk.new w.drew _ _
  have hb:Below w.heap.size w (w.drew.alloc (.cells (Builtin.zeroCells z0.cells n++Builtin.zeroCells z0.cells (G - n)) 66)):=Ax (Below.refl _ w).drew
  have hown:Af Em 2 (w.drew.alloc (.cells (Builtin.zeroCells z0.cells n++Builtin.zeroCells z0.cells (G - n)) 66)) w.heap.size 66 (.slice (some ⟨w.heap.size,0,none⟩) 0 G) [] :=
   Af.shut (Nat.le_refl _) hB rfl (Nat.zero_le _) hG2 hsz (by simp) (by simp only [List.length_nil,Nat.zero_mul,List.take_zero];exact rfl)
  generalize w.drew.alloc _=W at *
  have HR:=Lib.hid hr
  have HO:=Lib.hid hown
  have hp2:(0:Int) < (n:Int):=by omega
  unfold maxLen at hG2
  have hG3:(n:Int)<=(G:Int):=by omega
  have hG4:(0:Int)<=(G:Int):=by omega
  clear hr hB hown hsz hi0 hz0 hzs hz1 hz2
  go_enter Tryz.func217,Tryz.ntmps217
  go_wp2_with (at_builtin;refine Lib.wpList_append_run _ rfl (.tmp 20) (.tmp 21) 35 3 rfl _ _ rfl rfl _ _ (HR.out _) ?_)
  go_ret
  exact ⟨⟨_,rfl,HO.out⟩,hb⟩
def Ah6 (w:World) (B:Nat) (cs:List Value) (l:List Ad):Prop:=∃ v,cs=[v]/\Sl Em 2 w B v l
abbrev Km (w:World) (B:Nat):=Sl (Ah6 w B) 1 w B
theorem Km.next {w w':World} {v:Value} {ls:List (List Ad)} (h:Km w w.heap.size v ls) (hb:Below w.heap.size w w'):Km w' w'.heap.size v ls :=
 h.ext (fun _ _ ⟨v,e,h⟩=>⟨v,e,h.ext (fun _ _ h=>h) (Ext.of_below hb)⟩) (Ext.of_below hb)
theorem Ua {w:World} {B:Nat} {v:Value} {ls:List (List Ad)} (h:Km w B v ls) {m:Nat} {x:List Ad} (hx:ls[m]? = some x) :
  ∃ b off c vi,v=.slice (some ⟨b,off,none⟩) ls.length c/\b < B/\w.cell? ⟨b,off+m,none⟩=some vi/\Sl Em 2 w B vi x:=by
 obtain ⟨A,c,rfl,_,_,h3⟩:=h
 obtain ⟨b,off,rfl,hb,h4⟩:=h3 (by rintro rfl;simp at hx)
 obtain ⟨cs,⟨vi,rfl,hs⟩,_,h5⟩:=h4 m x hx
 have:=h5 0 vi rfl
 rw [Nat.mul_one,Nat.add_zero] at this
 exact ⟨b,off,c,vi,rfl,hb,this,hs⟩
def Ec (ls:List (List Ad)):Nat:=(ls.map List.length).sum
theorem V7 {ls:List (List Ad)} {m:Nat} {x:List Ad} (h:ls[m]? = some x):Ec (ls.take (m+1))=Ec (ls.take m)+x.length:=by
 rw [Da h];simp [Ec]
theorem Zl (ls:List (List Ad)) (m:Nat):Ec (ls.take m)<=Ec ls:=by
  have h:((ls.take m++ls.drop m).map List.length).sum=((ls.take m).map List.length).sum+((ls.drop m).map List.length).sum:=by rw [List.map_append,List.sum_append]
  rw [List.take_append_drop] at h
  unfold Ec
  omega
theorem Ag2 (ls:List (List Ad)):ls.flatten.length=Ec ls:=by simp [Ec,List.length_flatten]
set_option maxRecDepth 100000 in
set_option maxHeartbeats 1600000 in
theorem B10 (ls:List (List Ad)) (v:Value) (w:World) (h:Km w w.heap.size v ls) (hsum:Ec ls<=1073741824) :
  Calls Tryz.prog 190 #[v] w fun e w'=>(∃ v',e=.returned v'/\Af Em 2 w' w.heap.size 66 v' ls.flatten)/\Below w.heap.size w w':=by
 have hle:=h.len_le
 have HH:=Lib.hid h
 obtain ⟨A,c,rfl,-⟩:=id h
 clear h
 go_enter Tryz.func190,Tryz.ntmps190
 go_wp2_with fail
 go_loopw [3,11] (fun q k wr=>∃ m:Nat,m<=ls.length/\k=.int .i64 m/\q=.int .i64 (Ec (ls.take m))/\wr=w) (fun _ k _=>ls.length - (intOf k).toNat)
 case atStart=>exact ⟨0,Nat.zero_le _,rfl,rfl,rfl⟩
 case round =>
  rename_i q0 k0
  obtain ⟨m,hm,rfl,rfl,rfl⟩:=hrel
  obtain ⟨W0,rfl⟩ : ∃ W0:World,W0=wr:=⟨_,rfl⟩
  by_cases hlt:m < ls.length
  ·obtain ⟨x,hx⟩ : ∃ x,ls[m]? = some x:=⟨ls[m],List.getElem?_eq_getElem hlt⟩
   obtain ⟨b,off,_,vi,hv',hbb,e0,hs⟩:=Ua HH.out hx
   injection hv' with hv1 hv2 hv3
   subst hv1
   obtain ⟨A1,c1,rfl,-⟩:=id hs
   have HT:=Lib.hid (V7 hx)
   have hb1:=Zl ls (m+1)
   rw [HT.out] at hb1
   generalize Ec (ls.take m)=S at *
   have i1:(m:Int) < (ls.length:Int):=by omega
   have i2:(0:Int)<=(m:Int):=by omega
   have hw1:IntKind.i64.wrap ((S:Int)+(x.length:Int))=(S:Int)+(x.length:Int):=IntWalk.i64_in _ (by omega)
   have hn1:¬ ((S:Int)+(x.length:Int) < 0):=by omega
   clear hv2 hv3 hx hs
   go_wp2_with fail
   exact ⟨⟨m+1,by omega,by go_num,by rw [HT.out];simp,trivial⟩,by simp [intOf];omega⟩
  ·obtain rfl:m=ls.length:=by omega
   rw [List.take_length]
   have HG:=Lib.hid (Bk8 (Ec ls) W0 hsum)
   generalize hS:Ec ls=S at *
   have HS:=Lib.hid hS
   clear hS
   go_wp2_with fail
   refine HG.out.mono ?_
   rintro e w1 ⟨⟨v1,rfl,hown⟩,hb1⟩
   have HO:=Lib.hid hown
   clear hown HG
   go_wp2_with fail
   go_loopw [6,27] (fun o k w2=>∃ m:Nat,m<=ls.length/\k=.int .i64 m/\Af Em 2 w2 W0.heap.size 66 o (ls.take m).flatten/\Below W0.heap.size W0 w2) (fun _ k _=>ls.length - (intOf k).toNat)
   case atStart=>exact ⟨0,Nat.zero_le _,rfl,HO.out,hb1⟩
   case round =>
    rename_i o0 k0
    obtain ⟨n,hn,rfl,hown,hb⟩:=hrel
    by_cases hlt2:n < ls.length
    ·obtain ⟨x,hx⟩ : ∃ x,ls[n]? = some x:=⟨ls[n],List.getElem?_eq_getElem hlt2⟩
     obtain ⟨b,off,_,vi,hv',hbb,e0,hs⟩:=Ua (HH.out.next hb) hx
     injection hv' with hv1 hv2 hv3
     subst hv1
     have HT:=Lib.hid (show (ls.take (n+1)).flatten=(ls.take n).flatten++x by rw [Da hx];simp)
     have hl1:=Ag2 (ls.take n)
     have hl2:=V7 hx
     have hl3:=Zl ls (n+1)
     rw [HS.out] at hl3
     have hbound:(ls.take n).flatten.length+x.length<=1073741824:=by omega
     have HSX:=Lib.hid hs
     have HO2:=Lib.hid hown
     have Hb:=Lib.hid hb
     have hlt0:=hown.lt
     have hbs:=hb.size
     have i1:(n:Int) < (ls.length:Int):=by omega
     have i2:(0:Int)<=(n:Int):=by omega
     clear hv2 hv3 hx hs hown hb hl1 hl2 hl3
     go_wp2_with (at_builtin;refine Xt Ab2 Tryz.underlying35 (by omega) (by omega) Kv rfl (.tmp 31) (.tmp 32) rfl W0.heap.size _ _ rfl HO2.out _ _ x rfl HSX.out hbound (by omega) ?_;intro v' w' h1 h2 h3)
     have HO3:=Lib.hid h1
     have hb3:Below W0.heap.size W0 w':=Hb.out.grown h2 hbs (fun k hk=>(hlt0 k hk).1)
     clear h1 h2 h3
     go_wp2_with fail
     exact ⟨⟨n+1,by omega,by go_num,by rw [HT.out];exact HO3.out,hb3⟩,by simp [intOf];omega⟩
    ·obtain rfl:n=ls.length:=by omega
     rw [List.take_length] at hown
     have HO3:=Lib.hid hown
     clear hown
     go_wp2_with fail
     go_ret
     exact ⟨⟨_,rfl,HO3.out⟩,hb⟩
end Go.Proofs.YthlgnjlpakimaaaGreatDoor
