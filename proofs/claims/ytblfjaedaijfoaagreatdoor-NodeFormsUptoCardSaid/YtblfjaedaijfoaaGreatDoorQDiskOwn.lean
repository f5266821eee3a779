/- A disk of one's own of which one file's bytes are one's own too (the program's). -/
import Derived.Test.YtblfjaedaijfoaaGreatDoorQMarks
import Derived.Test.YtblfjaedaijfoaaGreatDoorQClone
import Derived.Test.YtblfjaedaijfoaaGreatDoorQDisk
import Derived.Test.YtblfjaedaijfoaaGreatDoorQTurnRow
import Derived.Test.YtblfjaedaijfoaaGreatDoorQPack
set_option linter.all false
set_option linter.unnecessarySimpa false
set_option linter.unusedSimpArgs false
set_option linter.unusedVariables false
namespace Go.Proofs.YtblfjaedaijfoaaGreatDoor
open Go.ChangeShapes Go.WideShapes Go.ChangeAt Go.RowKit
def Be0 (l:List F8):Prop:=∀ (i j:Nat) (x y:F8),i < j->l[i]? = some x->l[j]? = some y->x.number < y.number
theorem Bq9 {l:List F8} {o:Int} {lo:Nat} (hb:∀ w∈l.take lo,¬ w.number=o) (hl:lo < l.length) (he:l[lo].number=o):A42 l o=some l[lo]:=by
 have e:l=l.take lo++l[lo] :: l.drop (lo+1):=by rw [<-List.drop_eq_getElem_cons hl,List.take_append_drop]
 rw [show A42 l o=A42 (l.take lo++l[lo] :: l.drop (lo+1)) o from congrArg (A42 · o) e]
 unfold A42
 rw [List.find?_append,List.find?_eq_none.2 (fun x hx=>by simpa using hb x hx),Option.none_or,List.find?_cons_of_pos (by simpa using he)]
theorem Ae4 {l:List F8} {o:Int} (h:∀ w∈l,¬ w.number=o):A42 l o=none:=List.find?_eq_none.2 fun x hx=>by simpa using h x hx
theorem Bg2 {l:List F8} {o:Int} {lo:Nat} (hs:Be0 l) (h2:lo<=l.length) (h3:∀ (k:Nat) (x:F8),k < lo->l[k]? = some x->x.number < o) (h4:∀ (k:Nat) (x:F8),lo<=k->l[k]? = some x->o<=x.number) :
  Aj5 l o=lo/\((∃ h:lo < l.length,l[lo].number=o/\A42 l o=some l[lo])\/((∀ h:lo < l.length,l[lo].number≠o)/\A42 l o=none)):=by
 have hb:∀ w∈l.take lo,¬ w.number=o:=fun w hw=>by
  obtain ⟨j,hj,rfl⟩:=List.mem_take_iff_getElem.1 hw
  have:=h3 j l[j] (by omega) (List.getElem?_eq_getElem (by omega))
  omega
 rcases Nat.lt_or_ge lo l.length with hlt | hge
 ·have h5:=h4 lo l[lo] (Nat.le_refl _) (List.getElem?_eq_getElem hlt)
  refine ⟨(List.findIdx_eq hlt).2 ⟨by simpa using h5,fun j hj=>by
   have:=h3 j l[j] hj (List.getElem?_eq_getElem (by omega))
   simp
   omega⟩,?_⟩
  by_cases he:l[lo].number=o
  ·exact .inl ⟨hlt,he,Bq9 hb hlt he⟩
  ·refine .inr ⟨fun _=>he,Ae4 fun w hw e=>?_⟩
   obtain ⟨j,hj,rfl⟩:=List.mem_iff_getElem.1 hw
   rcases Nat.lt_trichotomy j lo with c | c | c
   ·have:=h3 j _ c (List.getElem?_eq_getElem hj);omega
   ·subst c;exact he e
   ·have:=hs lo j _ _ c (List.getElem?_eq_getElem hlt) (List.getElem?_eq_getElem hj);omega
 ·obtain rfl:lo=l.length:=by omega
  refine ⟨List.findIdx_eq_length.2 fun x hx=>?_,.inr ⟨fun h=>absurd h (Nat.lt_irrefl _),Ae4 (by rwa [List.take_length] at hb)⟩⟩
  obtain ⟨j,hj,rfl⟩:=List.mem_iff_getElem.1 hx
  have:=h3 j _ hj (List.getElem?_eq_getElem hj)
  simp
  omega
attribute [local irreducible] AW AWY Bo B4 vop Bj B7 Bf qop Bu C4 Aq Aj Bh A7 B9
attribute [local go_sem] Cv Hu Fs F6 Ae Af
theorem Ya (f:F8) (o:Int):A7 Tryz.prog A8 298 [.agg [.val (.int .i64 f.number),.iv (byI f.bytes),.val (.int .i64 f.sure)],.val (.int .i64 o)] (.val (.int .i64 (Xd f.number o))) []:=by
 refine A7.of (n:=9) (rs:=[.tmp 4]) Tryz.func298 rfl (by kernel_rfl) Tryz.ntmps298 (by kernel_rfl) (by simp) (fun _ _=>A8.later) ?_
 intro hok V w0
 refine g ?_
 repeat' (first | refine st_ rfl (g ?_) | exact trivial | refine A9 (Af7 _ _) rfl (g ?_))
set_option maxRecDepth 100000 in
set_option maxHeartbeats 1600000 in
theorem A88 (l:List F8) (o:Int) (hs:Be0 l):A7 Tryz.prog A8 297 [.iv (flI l),.val (.int .i64 o),.fn 298 []] (.tup [.val (.int .i64 (Aj5 l o:Nat)),.val (.bool (A42 l o).isSome)]) []:=by
 refine A7.of (n:=49) (rs:=[.tmp 6,.tmp 7]) Tryz.func297 rfl (by kernel_rfl) Tryz.ntmps297 (by kernel_rfl) (by simp) (fun _ _=>A8.later) ?_
 intro hok V w0
 have hlen:l.length<=1073741824:=by simpa [flI] using hok.1.1
 refine g ?_
 repeat' refine st_ rfl (g ?_)
 refine AW.loop (fun p:{p:Nat×Nat // p.1<=p.2/\p.2<=l.length/\(∀ (k:Nat) (x:F8),k < p.1->l[k]? = some x->x.number < o)/\(∀ (k:Nat) (x:F8),p.2<=k->l[k]? = some x->o<=x.number)}=>⟨[(0,.iv (flI l)),(1,.val (.int .i64 o)),(2,.fn 298 []),(8,.val (.int .i64 (l.length:Nat))),(9,.val (.int .i64 (p.1.1:Nat))),(10,.val (.int .i64 (p.1.2:Nat)))],[]⟩) (fun p=>p.1.2 - p.1.1) ⟨(0,l.length),Nat.zero_le _,Nat.le_refl _,fun k x hk=>by omega,fun k x hk hx=>by have:=(List.getElem?_eq_some_iff.1 hx).1;omega⟩ id ⟨⟨rfl,rfl,rfl,rfl,rfl,rfl,trivial⟩,trivial,List.nodup_nil⟩ fun ⟨⟨lo,hi⟩,h1,h2,h3,h4⟩=>?_
 simp only at h1 h2 h3 h4
 refine g ?_
 repeat' (first | refine st_ rfl (g ?_) | refine Al (fun h=>g ?_) (fun h=>g ?_) | (refine B8 rfl rfl (fun h e=>?_) (fun h e=>?_)<;>simp only [e]<;>clear e<;>refine g ?_) | refine ix_ (by omega) (g ?_) | refine A9 (Ya _ _) rfl (g ?_))
 ·have hlt:lo < hi:=by omega
  refine ⟨((lo+hi:Nat):Int),by rw [IntKind.wrap_u64];omega,?_⟩
  refine g ?_
  repeat' refine Bi (g ?_)
  refine ⟨.int .u64 (((lo+hi) / 2:Nat):Int),fun w=>by rw [show ((lo+hi:Nat):Int) / 2 ^ min 1 64=(((lo+hi) / 2:Nat):Int) from (by show ((lo+hi:Nat):Int) / 2=_;omega)];rfl,?_⟩
  obtain ⟨q,hq⟩ : ∃ q,(lo+hi) / 2=q:=⟨_,rfl⟩
  rw [hq]
  have hq1:lo<=q:=by omega
  have hq2:q < hi:=by omega
  have hql:q < l.length:=by omega
  refine g ?_
  repeat' (first | refine st_ rfl (g ?_) | refine Bi (g ?_) | refine Al (fun h=>g ?_) (fun h=>g ?_) | refine ix_ (by omega) (g ?_) | refine A9 (Ya _ _) rfl (g ?_))
  ·have h:=Vt.1 h
   refine ⟨⟨(q+1,hi),by show q+1<=hi;omega,h2,fun k x hk hx=>?_,h4⟩,id,⟨⟨rfl,rfl,rfl,rfl,rfl,rfl,trivial⟩,trivial,List.nodup_nil⟩,by show hi - (q+1) < hi - lo;omega⟩
   rcases Nat.lt_or_ge k q with c | c
   ·have:=hs k q _ _ c hx (List.getElem?_eq_getElem hql);omega
   ·obtain rfl:k=q:=by simp only at hk;omega
    rw [List.getElem?_eq_getElem hql] at hx
    obtain rfl:=Option.some.inj hx
    exact h
  ·have h:¬ l[q].number < o:=fun e=>h (Vt.2 e)
   refine ⟨⟨(lo,q),hq1,by show q<=l.length;omega,h3,fun k x hk hx=>?_⟩,id,⟨⟨rfl,rfl,rfl,rfl,rfl,rfl,trivial⟩,trivial,List.nodup_nil⟩,by show q - lo < hi - lo;omega⟩
   rcases Nat.lt_or_ge q k with c | c
   ·have:=hs q k _ _ c (List.getElem?_eq_getElem hql) hx;omega
   ·obtain rfl:k=q:=by simp only at hk;omega
    rw [List.getElem?_eq_getElem hql] at hx
    obtain rfl:=Option.some.inj hx
    omega
 ·obtain rfl:hi=lo:=by omega
  obtain ⟨g1,⟨hl,he,hg⟩ | ⟨hn,hg⟩⟩:=Bg2 hs h2 h3 h4
  ·rw [g1,hg,decide_eq_true (Z8.2 he)];rfl
  ·rw [g1,hg,decide_eq_false (fun e=>hn (by omega) (Z8.1 e))];rfl
 ·obtain rfl:hi=lo:=by omega
  obtain ⟨g1,⟨hl,he,hg⟩ | ⟨hn,hg⟩⟩:=Bg2 hs h2 h3 h4
  ·omega
  ·rw [g1,hg];rfl
theorem Bc9 (d:Gw) (o:Int) (hs:Be0 d.files) (iR:I64 d.room):A7 Tryz.prog A8 234 [dkA d,.val (.int .i64 o)] (.tup [.val (.int .i64 (Aj5 d.files o:Nat)),.val (.bool (A42 d.files o).isSome)]) []:=by
 refine A7.of (n:=12) (rs:=[.tmp 4,.tmp 5]) Tryz.func234 rfl (by kernel_rfl) Tryz.ntmps234 (by kernel_rfl) (by simp) (fun _ _=>A8.later) ?_
 intro hok V w0
 refine g ?_
 refine AW.seq ?_
 refine AW.reg rfl fun KK hKK=>?_
 refine g ?_
 repeat' (refine hKK _ (g ?_);clear hKK KK)
 refine AW.freeze 300 _ rfl ⟨iR,trivial,trivial⟩ ?_
 simp only [go_sem,reduceIte,Nat.reduceEqDiff]
 refine g ?_
 repeat' (first | refine st_ rfl (g ?_) | exact trivial | refine A9 (A88 _ _ hs) rfl (g ?_))
end Go.Proofs.YtblfjaedaijfoaaGreatDoor
namespace Go.Proofs.YtblfjaedaijfoaaGreatDoor
open Go.ChangeShapes Go.WideShapes Go.ChangeAt Go.RowKit
theorem Db1 {q:Gw×Int} {e:Int} (h:q=(Q1,e)):Bz (.tup [.agg [.val (.int .i64 0),.val (.slice none 0 0)],.val (.int .i64 e)]) (.tup [dkA q.1,.val (.int .i64 q.2)]):=by
 subst h
 refine Ep rfl fun p hp=>?_
 simp only [List.zip_cons_cons,List.zip_nil_right,List.mem_cons,List.not_mem_nil,or_false] at hp
 rcases hp with rfl | rfl
 ·refine Es rfl fun p hp=>?_
  simp only [List.zip_cons_cons,List.zip_nil_right,List.mem_cons,List.not_mem_nil,or_false] at hp
  rcases hp with rfl | rfl
  ·exact Bz.rfl_ _
  ·exact Bg 3
 ·exact Bz.rfl_ _
attribute [local irreducible] AW AWY Bo B4 vop Bj B7 Bf qop Bu C4 Aq Aj Bh A7 B9
attribute [local go_sem] Cv Hu Fs F6 Ae Af
def Kx (l:List F8) (m:Nat):List F8:=(l.take m).map Bf0++l.drop m
theorem B40 {l:List F8} {m:Nat} (h:m < l.length):(Kx l m)[m]? = some l[m]:=by
 unfold Kx
 rw [List.getElem?_append_right (by simp;omega)]
 simp [List.length_take,Nat.min_eq_left (Nat.le_of_lt h)]
theorem B39 (l:List F8) {m:Nat} (h:m<=l.length):(Kx l m).length=l.length:=by
 unfold Kx
 simp
 omega
theorem B38 {l:List F8} {m:Nat} (h:m < l.length):(Kx l m).set m (Bf0 l[m])=Kx l (m+1):=by
 unfold Kx
 rw [List.take_succ_eq_append_getElem h,List.map_append,List.set_append_right _ _ (by simp;omega),List.append_assoc]
 congr 1
 rw [List.length_map,List.length_take,Nat.min_eq_left (Nat.le_of_lt h),Nat.sub_self,List.drop_eq_getElem_cons h]
 rfl
set_option maxRecDepth 100000 in
set_option maxHeartbeats 1600000 in
theorem Bc7 (d:Gw) (iR:I64 d.room):A7 Tryz.prog A8 84 [dkA d] (.tup [dkA (Zk d).1,.val (.int .i64 (Zk d).2)]) []:=by
 refine A7.ofS (n:=32) (rs:=[.cell 2 36,.tmp 3]) Tryz.func84 rfl (by kernel_rfl) Tryz.ntmps84 (by kernel_rfl) (by simp) (fun _ _=>A8.later) ?_
 intro hok V w0
 have hlen:d.files.length<=1073741824:=by simpa [flI] using hok.1.2.1.1
 have hfl:AV.okd (.iv (flI d.files)):=hok.1.2.1
 have hf:=Jt d iR
 have ht:=A51 d iR
 refine g ?_
 refine AW.seq ?_
 refine AW.reg rfl fun KK hKK=>?_
 refine g ?_
 repeat' (refine hKK _ (g ?_);clear hKK KK)
 refine AW.freeze 200 _ rfl ⟨iR,trivial,trivial⟩ ?_
 simp only [go_sem,reduceIte,Nat.reduceEqDiff]
 cases hF:Bs d with
 | false =>
  rw [hF] at hf
  refine g ?_
  repeat' (first | refine st_ rfl (g ?_) | refine A9 (hf) rfl (g ?_))
  exact Db1 (by rw [Zk,if_neg (by simp [hF])])
 | true =>
  rw [hF] at hf
  rw [Zk,if_pos hF]
  refine g ?_
  repeat' (first | refine st_ rfl (g ?_) | refine A9 (hf) rfl (g ?_) | refine A9 (ht) rfl (g ?_))
  refine AW.loop (fun m:{m:Nat // m<=d.files.length}=>⟨[(2,.bp 300 0),(4,.bp 500 0),(14,.val (.int .i64 (d.files.length:Nat))),(15,.val (.int .i64 (m.1:Nat)))],[.box 500 [.val (.int .i64 d.room),.own 1200],.row 1200 134 3 ((Kx d.files m.1).map enF),.box 300 [.val (.int .i64 0),.val (.slice none 0 0)]]⟩) (fun m=>d.files.length - m.1) ⟨0,Nat.zero_le _⟩ id ⟨⟨rfl,rfl,rfl,rfl,trivial⟩,⟨rfl,rfl,rfl,trivial⟩,by simp [By,BA.id]⟩ fun ⟨m,hm⟩=>?_
  simp only
  repeat (refine AW.seq ?_)
  refine AW.reg rfl fun KK hKK=>?_
  refine g ?_
  repeat' (refine hKK _ (g ?_);clear hKK KK)
  repeat (refine AW.seq ?_)
  refine st_ rfl ?_
  refine g ?_
  refine Al (fun h=>?_) (fun h=>?_)
  ·have hlt:m < d.files.length:=by omega
   obtain ⟨i1,i2,i3⟩:=Bh1 hfl hlt
   have hget:((Kx d.files m).map enF)[m]? = some (enF d.files[m]):=by rw [List.getElem?_map,B40 hlt];rfl
   have hsl:=B39 d.files hm
   have hset:((Kx d.files m).map enF).set m (F2 (enF d.files[m]) 2 [.val (.int .i64 (d.files[m].bytes.length:Nat))])=(Kx d.files (m+1)).map enF:=by
    rw [<-B38 hlt,List.map_set]
    rfl
   refine st_ rfl (g ?_)
   refine g ?_
   repeat' refine st_ rfl (g ?_)
   refine AW.drawn (ds:=[18,19,20,21,22,23,24,25,26,27,28,29]) (fin:=[0,2,3]) (bs:=[3,3,3,3,3,3,3,3,3,3,3,3,3]) [⟨[],[],[],[],0⟩,⟨[(18,0)],[],[0,1,2],[],0⟩,⟨[],[],[],[],0⟩,⟨[],[],[],[],0⟩,⟨[(21,3)],[],[0,1,2],[],0⟩,⟨[],[],[],[],0⟩,⟨[(22,4),(23,5)],[],[0,1,2],[],0⟩,⟨[(24,6)],[],[],[],0⟩,⟨[(25,7)],[],[0,1,2],[],0⟩,⟨[(26,8)],[],[0,1,2],[],0⟩,⟨[(19,1),(20,2)],[],[0,1,2],[],0⟩,⟨[(28,10)],[],[],[],0⟩,⟨[(29,11),(27,9)],[],[],[1],1⟩] (by kernel_rfl) rfl (by kernel_rfl) rfl rfl rfl fun KD hKD=>?_
   refine g ?_
   repeat' (first | (refine Ba4 (by omega) ?_)<;>refine g ?_ | (refine Bh4 hget ?_)<;>refine g ?_)
   refine ⟨_,_,rfl,⟨I64.of (by omega) (by omega),trivial⟩,hget,Bi ?_⟩
   rw [hset]
   refine g ?_
   repeat' (first | refine st_ rfl (g ?_) | (refine hKD _ _ ⟨rfl,g ?_⟩;clear hKD KD))
   exact ⟨⟨m+1,hlt⟩,id,⟨⟨rfl,rfl,rfl,rfl,trivial⟩,⟨rfl,rfl,rfl,trivial⟩,by simp [By,BA.id]⟩,by show d.files.length - (m+1) < d.files.length - m;omega⟩
  ·refine AW.exit ?_
   simp only [reduceIte]
   have hd:Kx d.files m=d.files.map Bf0:=by
    unfold Kx
    rw [List.take_of_length_le (by omega),List.drop_of_length_le (by omega),List.append_nil]
   rw [hd]
   refine AW.freeze 1200 _ rfl trivial ?_
   simp only [go_sem,reduceIte,Nat.reduceEqDiff]
   refine g ?_
   repeat' refine st_ rfl (g ?_)
   exact Bz.rfl_ _
end Go.Proofs.YtblfjaedaijfoaaGreatDoor
namespace Go.Proofs.YtblfjaedaijfoaaGreatDoor
open Go.ChangeShapes Go.WideShapes Go.ChangeAt Go.RowKit
attribute [local irreducible] AW AWY Bo B4 vop Bj B7 Bf qop Bu C4 Aq Aj Bh A7 B9
attribute [local go_sem] Cv Hu Fs F6 Ae Af
def twB (d:Gw) (i:Nat) (hi:i < d.files.length) (m:Nat):List BA :=
 if m<=i then [.box 200 [.val (.int .i64 d.room),.own 700],.row 700 134 3 (d.files.map enF),.box 300 [.val (.int .i64 0),.val (.slice none 0 0)]]
 else [.box 200 [.val (.int .i64 d.room),.own 700],.rowN 700 134 3 (d.files.map enF) i 1 900,.box 300 [.val (.int .i64 0),.val (.slice none 0 0)],.row 900 5 1 (d.files[i].bytes.map byC)]
end Go.Proofs.YtblfjaedaijfoaaGreatDoor
