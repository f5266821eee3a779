/- Whether a node is formed, what a new one is, whether it is up (the program's). -/
import Derived.Test.YtahgkllhbggmgaaGreatDoorLMsgFormE
import Derived.Test.YtahgkllhbggmgaaGreatDoorLStreamArgs
import Derived.Test.YtahgkllhbggmgaaGreatDoorLCacheForm
import Derived.Test.YtahgkllhbggmgaaGreatDoorLSubsCmp
import Derived.Test.YtahgkllhbggmgaaGreatDoorLWire
import Derived.Test.YtahgkllhbggmgaaGreatDoorLSess
import Derived.Test.YtahgkllhbggmgaaGreatDoorLOuts
import Derived.Test.YtahgkllhbggmgaaGreatDoorLDisk
set_option linter.all false
set_option linter.unnecessarySimpa false
set_option linter.unusedSimpArgs false
set_option linter.unusedVariables false
namespace Go.Proofs.YtahgkllhbggmgaaGreatDoor
open Go.ChangeShapes Go.WideShapes Go.ChangeAt Go.RowKit
theorem C31 {l:List Msg} (h:AV.okd (.iv (msI l))) {m:Nat} (hm:m < l.length):C17 l[m]:=by
 obtain ⟨-,o1,o2,o3,o4,o5,-,-,-,o6,o7,o8,-⟩:=Q7 (by simpa [msI] using h.2) (A31 l[m]) (List.mem_map_of_mem (List.getElem_mem hm))
 exact ⟨o1,o2,o3,o4,o5,o6,o7,o8⟩
attribute [local irreducible] AW AWY Be As vop Az Aq Ax qop Bd Bv Aj Ag Ay A7 Aw
attribute [local go_sem] Ge L5 G9 Cf Ae Af
def A89 (l:Log):AV:=if C6 l=true then .iv (stI (B4 l.base l.notes)) else .any
set_option maxHeartbeats 1600000 in
set_option maxRecDepth 100000 in
theorem Ak9 (l:Log) (iS:I64 l.sure):A7 Tryz.prog A8 139 [Xz l] (.tup [A89 l,.val (.bool (C6 l))]) []:=by
 refine A7.ofS (n:=49) (rs:=[.tmp 2,.tmp 3]) Tryz.func139 rfl (by kernel_rfl) Tryz.ntmps139 (by kernel_rfl) (by simp) (fun _ _=>A8.later) ?_
 intro hok V w0
 have hlen:l.notes.length<=1073741824:=by simpa using hok.1.2.1.1
 obtain ⟨B,hB⟩ : ∃ B,C6 l=B:=⟨_,rfl⟩
 obtain ⟨KN,hKN⟩ : ∃ KN,A89 l=KN:=⟨_,rfl⟩
 rw [hKN,hB]
 unfold A89 at hKN
 rw [hB] at hKN
 rw [Ph] at hB
 refine g ?_
 refine AW.seq ?_
 refine AW.reg rfl fun KK hKK=>?_
 refine g ?_
 repeat' (refine hKK _ (g ?_);clear hKK KK)
 refine AW.freeze 200 _ rfl ⟨trivial,trivial,iS,trivial⟩ ?_
 simp only [go_sem,reduceIte]
 refine g ?_
 repeat' refine st_ rfl (g ?_)
 refine bs1 (by omega) rfl rfl rfl ⟨trivial,trivial⟩ ?_
 refine g ?_
 refine Yt (Mp [l.base]) (by trivial) rfl (Sy (W9 _)) (by exact Sbs.rfl_ _) rfl ?_
 refine g ?_
 refine AW.freeze 1000 _ rfl trivial ?_
 simp only [go_sem,reduceIte]
 refine g ?_
 repeat' refine st_ rfl (g ?_)
 refine AW.loop (fun m:{m:Nat // m<=l.notes.length/\C5 (Dw [l.base]) (l.notes.take m)=true}=>⟨[(1,.ip [stI l.base,noI l.notes,.val (.int .i64 l.sure)]),(2,.iv (stI (B4 (Dw [l.base]) (l.notes.take m.1)))),(11,.iv (noI l.notes)),(12,.val (.int .i64 (l.notes.length:Nat))),(13,.val (.int .i64 m.1))],[]⟩) (fun m=>l.notes.length - m.1) ⟨0,Nat.zero_le _,rfl⟩ id (by simp [LeS,go_sem,B4,stI,noI]) fun ⟨m,hm,ht⟩=>?_
 have hsp:∀ (hlt:m < l.notes.length),l.notes=l.notes.take m++l.notes[m] :: l.notes.drop (m+1):=fun hlt=>by rw [<-List.drop_eq_getElem_cons hlt,List.take_append_drop]
 refine g ?_
 repeat' (first | refine st_ rfl (g ?_) | refine De (fun h=>g ?_) (fun h=>g ?_))
 ·have hlt:m < l.notes.length:=by simpa using h
  have hs2:C5 (Dw [l.base]) l.notes=((Bt l.notes[m]&&Bi (B4 (Dw [l.base]) (l.notes.take m)) l.notes[m].start)&&C5 (Dw [B4 (Dw [l.base]) (l.notes.take m),l.notes[m].end_]) (l.notes.drop (m+1))):=by
   conv=>lhs;rw [hsp hlt]
   rw [Dg,ht,Bool.true_and];rfl
  refine ⟨by omega,_,Dl (List.getElem?_eq_getElem hlt),?_⟩
  refine g ?_
  repeat' (first | refine st_ rfl (g ?_) | refine B9 (g ?_))
  refine Aa (N1 l.notes[m]) rfl ?_
  cases hf:Bt l.notes[m]
  ·refine g ?_
   repeat' refine st_ rfl (g ?_)
   obtain rfl:B=false:=by rw [<-hB,hs2,hf];rfl
   obtain rfl:KN=.any:=hKN.symm
   first | exact ⟨.inl trivial,id,Cx,List.nodup_nil⟩ | exact Cx | exact ⟨id,Cx⟩
  refine g ?_
  refine Aa (Xw l.notes[m] _) rfl ?_
  cases hc:Bi (B4 (Dw [l.base]) (l.notes.take m)) l.notes[m].start
  ·refine g ?_
   repeat' refine st_ rfl (g ?_)
   obtain rfl:B=false:=by rw [<-hB,hs2,hf,hc];rfl
   obtain rfl:KN=.any:=hKN.symm
   first | exact ⟨.inl trivial,id,Cx,List.nodup_nil⟩ | exact Cx | exact ⟨id,Cx⟩
  refine g ?_
  repeat' refine st_ rfl (g ?_)
  refine bs2 (by omega) rfl rfl rfl ⟨trivial,trivial⟩ rfl rfl rfl ⟨trivial,trivial⟩ ?_
  refine g ?_
  refine Yt (Mp [B4 (Dw [l.base]) (l.notes.take m),l.notes[m].end_]) (by simp [Aj9,J8,okA]) rfl (Sy (W9 _)) (by exact Sbs.rfl_ _) rfl ?_
  refine g ?_
  refine AW.freeze 3100 _ rfl trivial ?_
  simp only [go_sem,reduceIte]
  refine g ?_
  repeat' refine st_ rfl (g ?_)
  refine ⟨⟨m+1,hlt,?_⟩,id,?_,?_⟩
  ·rw [List.take_succ_eq_append_getElem hlt,Dg,ht,Bool.true_and]
   simp [C5,hf,hc]
  ·refine ⟨⟨rfl,?_,rfl,rfl,rfl,trivial⟩,trivial,List.nodup_nil⟩
   rw [List.take_succ_eq_append_getElem hlt,Kx]
   rfl
  ·simp;omega
 ·have:m=l.notes.length:=by simp at h;omega
  subst this
  refine AW.drawn (ds:=[32,33,34,35,36,37,38,39,40,41,42,43,44,45,46,47,48,2,3]) (fin:=[]) (bs:=[0,0,0,0,0,0,0,0,0,0,0,0,0,0,0,0,0,0,0]) [⟨[],[2],[],[],0⟩,⟨[],[],[],[],0⟩,⟨[(33,1)],[],[],[],0⟩,⟨[(34,2)],[],[],[],0⟩,⟨[(35,3)],[],[],[],0⟩,⟨[],[],[],[],0⟩,⟨[(37,5)],[],[],[],0⟩,⟨[(38,6)],[],[],[],0⟩,⟨[(36,4),(39,7)],[],[],[],0⟩,⟨[(40,8)],[],[],[],0⟩,⟨[],[],[],[],0⟩,⟨[(42,10)],[],[],[],0⟩,⟨[],[],[],[],0⟩,⟨[(44,12)],[],[],[],0⟩,⟨[(45,13)],[],[],[],0⟩,⟨[(43,11),(46,14)],[],[],[],0⟩,⟨[(41,9),(47,15)],[],[],[],0⟩,⟨[(32,0)],[],[],[],0⟩,⟨[(48,16)],[],[],[],0⟩] (by kernel_rfl) rfl (by kernel_rfl) rfl rfl rfl fun KD hKD=>?_
  refine g ?_
  refine Aa (G6 l.base) rfl ?_
  cases hb:B7 l.base
  ·refine g ?_
   repeat' (first | refine st_ rfl (g ?_) | (refine hKD _ _ ⟨rfl,g ?_⟩;clear hKD KD))
   obtain rfl:B=false:=by rw [<-hB,hb,Bool.false_and,Bool.and_false]
   obtain rfl:KN=.any:=hKN.symm
   first | exact ⟨.inl trivial,id,Cx,List.nodup_nil⟩ | exact Cx | exact ⟨id,Cx⟩
  rw [List.take_length] at ht
  rw [ht,hb,Bool.true_and,Bool.true_and] at hB
  by_cases h0:0<=l.sure
  ·have d0:decide ((0:Int)<=l.sure)=true:=decide_eq_true h0
   refine g ?_
   simp only [d0]
   refine g ?_
   repeat' (first | refine st_ rfl (g ?_) | (refine hKD _ _ ⟨rfl,g ?_⟩;clear hKD KD))
   obtain rfl:B=decide (l.sure<=(l.notes.length:Nat)):=by rw [<-hB,Ww,d0,Bool.true_and]
   by_cases h1:l.sure<=(l.notes.length:Nat)
   ·rw [decide_eq_true h1,if_pos rfl] at hKN
    subst hKN
    rw [List.take_length,A19 hb]
    first | exact ⟨.inl trivial,id,fun _ _ _ h=>h,List.nodup_nil⟩ | exact fun _ _ _ h=>h | exact ⟨id,fun _ _ _ h=>h⟩
   ·rw [decide_eq_false h1] at hKN
    obtain rfl:KN=.any:=hKN.symm
    first | exact ⟨.inl trivial,id,Cx,List.nodup_nil⟩ | exact Cx | exact ⟨id,Cx⟩
  ·have d0:decide ((0:Int)<=l.sure)=false:=decide_eq_false h0
   refine g ?_
   simp only [d0]
   refine g ?_
   repeat' (first | refine st_ rfl (g ?_) | (refine hKD _ _ ⟨rfl,g ?_⟩;clear hKD KD))
   obtain rfl:B=false:=by rw [<-hB,Ww,d0,Bool.false_and]
   obtain rfl:KN=.any:=hKN.symm
   first | exact ⟨.inl trivial,id,Cx,List.nodup_nil⟩ | exact Cx | exact ⟨id,Cx⟩
set_option maxRecDepth 100000 in
theorem Al1 (l:Log) (iS:I64 l.sure) (h:C6 l=true):A7 Tryz.prog A8 66 [Xz l] (.iv (stI (B4 l.base l.notes))) []:=by
 have hw:=Ak9 l iS
 unfold A89 at hw
 rw [if_pos h,h] at hw
 refine A7.of (n:=13) (rs:=[.tmp 2]) Tryz.func66 rfl (by kernel_rfl) Tryz.ntmps66 (by kernel_rfl) (by simp) (fun _ _=>A8.later) ?_
 intro hok V w0
 refine g ?_
 refine AW.seq ?_
 refine AW.reg rfl fun KK hKK=>?_
 refine g ?_
 repeat' (refine hKK _ (g ?_);clear hKK KK)
 refine AW.freeze 200 _ rfl ⟨trivial,trivial,iS,trivial⟩ ?_
 simp only [go_sem,reduceIte,Nat.reduceEqDiff]
 refine g ?_
 repeat' refine st_ rfl (g ?_)
 refine Aa hw rfl ?_
 refine g ?_
 repeat' refine st_ rfl (g ?_)
 first | exact trivial | exact ⟨.inl trivial,id,List.nodup_nil⟩ | rfl
end Go.Proofs.YtahgkllhbggmgaaGreatDoor
namespace Go.Proofs.YtahgkllhbggmgaaGreatDoor
open Go.ChangeShapes Go.WideShapes Go.ChangeAt Go.RowKit
structure K5 (n:Es):Prop where
 me:I64 n.me
 room:I64 n.view.room
 sure:I64 n.log.sure
 tries:I64 n.tries
 droom:I64 n.disk.room
attribute [local irreducible] AW AWY Be As vop Az Aq Ax qop Bd Bv Aj Ag Ay A7 Aw
attribute [local go_sem] Dp Uh N9 Na Lt Pf Lu L6 Ro P6 Pp Jc L4 Ge G9 E6 Dx Eg Ch S7 Ae Af
theorem C66 {W:Int} {K:Int->Prop} (hk:K W):∃ m,W=m/\D0 (K m):=⟨_,rfl,B9 hk⟩
theorem U2 (n:Int):A7 Tryz.prog A8 58 [.val (.int .i64 n)] (.val (.bool (decide (0<=n/\n < 64)))) []:=by
 refine A7.of (n:=9) (rs:=[.tmp 2]) Tryz.func58 rfl (by kernel_rfl) Tryz.ntmps58 (by kernel_rfl) (by simp) (fun _ _=>A8.later) ?_
 intro hok V w0
 obtain ⟨B,hB⟩ : ∃ B,decide (0<=n/\n < 64)=B:=⟨_,rfl⟩
 rw [hB]
 refine g ?_
 repeat' (first | refine st_ rfl (g ?_) | (refine B8 rfl rfl (fun h e=>?_) (fun h e=>?_)<;>simp only [e]<;>clear e<;>refine g ?_))
 all_goals (rw [<-hB];simp;omega)
theorem Bj1 (room:Int):Dc [] room=P0 room:=by
 simp only [Dc,K1,Ni]
 cases h:P0 room with
 | false=>simp
 | true =>
  simp only [P0,Bool.and_eq_true,decide_eq_true_eq] at h
  simp [h.1]
theorem Br9 (s:Sub) (f:Int):A7 Tryz.prog A8 148 [.agg [.val (.int .i64 s.from_),.iv (spI s.interest),.val (.int .i64 s.session),.val (.int .i64 s.seq),.val (.bool s.live),.val (.bool s.heard),.val (.bool s.idle)],.ip [.val (.int .i64 f)]] (.val (.bool (decide (s.from_=f)))) []:=by
 refine A7.of (n:=8) (rs:=[.tmp 3]) Tryz.func148 rfl (by kernel_rfl) Tryz.ntmps148 (by kernel_rfl) (by simp) (fun _ _=>A8.later) ?_
 intro hok V w0
 refine g ?_
 repeat' (first | refine st_ rfl (g ?_) | exact trivial)
set_option maxRecDepth 100000 in
theorem Bb3 (l:List Sub) (f:FuncId) (C:List IV) (p:Sub->Bool) (hp:∀ s,A7 Tryz.prog A8 f [.agg [.val (.int .i64 s.from_),.iv (spI s.interest),.val (.int .i64 s.session),.val (.int .i64 s.seq),.val (.bool s.live),.val (.bool s.heard),.val (.bool s.idle)],.ip C] (.val (.bool (p s))) []):A7 Tryz.prog A8 147 [.iv (J2 l),.fn f [.ip C]] (.val (.int .i64 (if l.any p=true then ((l.findIdx p:Nat):Int) else -1))) []:=by
 refine A7.of (n:=19) (rs:=[.tmp 4]) Tryz.func147 rfl (by kernel_rfl) Tryz.ntmps147 (by kernel_rfl) (by simp) (fun _ _=>A8.later) ?_
 intro hok V w0
 have hlen:l.length<=1073741824:=by simpa [J2] using hok.1.1
 refine g ?_
 repeat' refine st_ rfl (g ?_)
 refine AW.loop (fun m:{m:Nat // m<=l.length/\∀ x∈l.take m,p x=false}=>⟨[(0,.iv (J2 l)),(1,.fn f [.ip C]),(7,.val (.int .i64 (l.length:Nat))),(8,.val (.int .i64 (m.1:Nat)))],[]⟩) (fun m=>l.length - m.1) ⟨0,Nat.zero_le _,fun x hx=>by simp at hx⟩ id ⟨⟨rfl,rfl,rfl,rfl,trivial⟩,trivial,List.nodup_nil⟩ fun ⟨m,hm,ht⟩=>?_
 refine g ?_
 repeat' (first | refine st_ rfl (g ?_) | refine Al (fun h=>g ?_) (fun h=>g ?_) | refine De (fun h=>g ?_) (fun h=>g ?_) | refine ix_ (by omega) (g ?_) | refine Aa (hp _) rfl (g ?_))
 ·have hlt:m < l.length:=by omega
  rw [if_pos (List.any_eq_true.2 ⟨_,List.getElem_mem hlt,h⟩),(List.findIdx_eq hlt).2 ⟨h,fun j hj=>ht _ (List.mem_take_iff_getElem.2 ⟨j,by omega,rfl⟩)⟩]
 ·refine ⟨⟨m+1,by omega,fun x hx=>?_⟩,id,⟨⟨rfl,rfl,rfl,rfl,trivial⟩,trivial,List.nodup_nil⟩,by show l.length - (m+1) < l.length - m;omega⟩
  rw [List.take_succ_eq_append_getElem (by omega)] at hx
  rcases List.mem_append.1 hx with h1 | h1
  ·exact ht x h1
  ·rw [List.mem_singleton.1 h1];exact h
 ·obtain rfl:m=l.length:=by omega
  rw [List.take_length] at ht
  rw [if_neg]
  rw [List.any_eq_true]
  rintro ⟨x,hx,hp⟩
  rw [ht x hx] at hp
  cases hp
def Ae4 (l:List Sub) (f:Int):Int:=if l.any (fun s=>decide (s.from_=f))=true then ((l.findIdx fun s=>decide (s.from_=f):Nat):Int) else -1
theorem C07 (n:Es) (f:Int) (hI:K5 n) (iF:I64 f):A7 Tryz.prog A8 70 [ndA n,.val (.int .i64 f)] (.val (.int .i64 (Ae4 n.subs f))) []:=by
 refine A7.of (n:=9) (rs:=[.tmp 4]) Tryz.func70 rfl (by kernel_rfl) Tryz.ntmps70 (by kernel_rfl) (by simp) (fun _ _=>A8.later) ?_
 intro hok V w0
 refine g ?_
 refine AW.seq ?_
 refine AW.reg rfl fun KK hKK=>?_
 refine g ?_
 repeat' (refine hKK _ (g ?_);clear hKK KK)
 refine AW.freeze 300 _ rfl ⟨hI.me,trivial,trivial,trivial,trivial,hI.room,trivial,trivial,hI.sure,trivial,trivial,hI.tries,trivial,hI.droom,trivial,trivial,trivial⟩ ?_
 simp only [go_sem,reduceIte,Nat.reduceEqDiff]
 refine AW.freeze 400 _ rfl ⟨iF,trivial⟩ ?_
 simp only [go_sem,reduceIte,Nat.reduceEqDiff]
 refine g ?_
 repeat' (first | refine st_ rfl (g ?_) | refine Aa (Bb3 _ _ _ (fun s=>decide (s.from_=f)) (fun s=>Br9 s f)) rfl (g ?_))
 rfl
set_option maxRecDepth 100000 in
set_option maxHeartbeats 6400000 in
theorem Aw1 (n:Es) (hI:K5 n):A7 Tryz.prog A8 26 [ndA n] (.val (.bool (Bf n))) []:=by
 have hat:=C07 n n.me hI hI.me
 obtain ⟨me,v,lg,outs,subs,tries,q,dk,dn⟩:=n
 obtain ⟨iM,iR,iS,iT,iD⟩:=hI
 simp only at iM iR iS iT iD hat
 refine A7.of (n:=166) (rs:=[.tmp 2]) Tryz.func26 rfl (by kernel_rfl) Tryz.ntmps26 (by kernel_rfl) (by simp) (fun _ _=>A8.later) ?_
 intro hok V w0
 have hq:AV.okd (.iv (msI q)):=hok.1.2.2.2.2.2.2.2.2.2.2.2.2.1
 have ho:AV.okd (.iv (ouI outs)):=hok.1.2.2.2.2.2.2.2.2.2.1
 have l1:v.known.length<=1073741824:=by simpa using hok.1.2.1.1
 have l2:v.zones.length<=1073741824:=by simpa [znI] using hok.1.2.2.1.1
 have l3:v.held.length<=1073741824:=by simpa using hok.1.2.2.2.1.1
 have l4:v.bodies.length<=1073741824:=by simpa [boI] using hok.1.2.2.2.2.1.1
 have l5:lg.base.length<=1073741824:=by simpa using hok.1.2.2.2.2.2.2.1.1
 have l6:lg.notes.length<=1073741824:=by simpa using hok.1.2.2.2.2.2.2.2.1.1
 have l7:outs.length<=1073741824:=by simpa [ouI] using ho.1
 have l8:subs.length<=1073741824:=by simpa [J2] using hok.1.2.2.2.2.2.2.2.2.2.2.1.1
 have l9:q.length<=1073741824:=by simpa [msI] using hq.1
 obtain ⟨B,hB⟩ : ∃ B,Bf ⟨me,v,lg,outs,subs,tries,q,dk,dn⟩=B:=⟨_,rfl⟩
 rw [hB]
 have hdf:=Ay9 dk iD
 refine g ?_
 refine AW.seq ?_
 refine AW.reg rfl fun KK hKK=>?_
 refine g ?_
 repeat' (refine hKK _ (g ?_);clear hKK KK)
 refine AW.freeze 200 _ rfl ⟨iM,trivial,trivial,trivial,trivial,iR,trivial,trivial,iS,trivial,trivial,iT,trivial,iD,trivial,trivial,trivial⟩ ?_
 simp only [go_sem,reduceIte,Nat.reduceEqDiff]
 cases hT:B67 ⟨me,v,lg,outs,subs,tries,q,dk,dn⟩ with
 | false =>
  obtain rfl:B=false:=by rw [<-hB,Bf,hT];rfl
  simp only [B67,Bool.and_eq_false_iff,decide_eq_false_iff_not] at hT
  cases hD:C0 dk with
  | false =>
   rw [hD] at hdf
   refine g ?_
   repeat' (first | refine st_ rfl (g ?_) | exact trivial | (refine B8 rfl rfl (fun h e=>?_) (fun h e=>?_)<;>simp only [e]<;>clear e<;>refine g ?_) | (refine E9 rfl rfl (fun h=>?_) (fun h=>?_)<;>simp only [h]<;>refine g ?_) | refine Aa (U2 me) rfl (g ?_) | refine Aa (hdf) rfl (g ?_))
  | true =>
   rw [hD] at hdf hT
   simp only [Bool.true_eq_false,or_false] at hT
   refine g ?_
   repeat' (first | refine st_ rfl (g ?_) | exact trivial | refine Al (fun h=>g ?_) (fun h=>g ?_) | refine De (fun h=>g ?_) (fun h=>g ?_) | (refine B8 rfl rfl (fun h e=>?_) (fun h e=>?_)<;>simp only [e]<;>clear e<;>refine g ?_) | (refine E9 rfl rfl (fun h=>?_) (fun h=>?_)<;>simp only [h]<;>refine g ?_) | refine Aa (U2 me) rfl (g ?_) | refine Aa (hdf) rfl (g ?_))
   all_goals (exfalso;simp at *;omega)
 | true =>
  rw [Bf,hT,Bool.true_and] at hB
  simp only [B67,Bool.and_eq_true,decide_eq_true_eq] at hT
  obtain ⟨⟨⟨t1,t2⟩,t3⟩,t4⟩:=hT
  rw [t3] at hdf
  have hnum:=U2 me
  rw [decide_eq_true t1] at hnum
  cases dn with
  | true =>
   simp only [if_true] at hB
   have hcf:=T7 [] v.room iR
   obtain ⟨lb,ln,ls⟩:=lg
   simp only at iS l5 l6
   by_cases hs:ls=0
   ·subst hs
    refine g ?_
    repeat' (first | refine st_ rfl (g ?_) | refine Al (fun h=>g ?_) (fun h=>g ?_) | (refine B8 rfl rfl (fun h e=>?_) (fun h e=>?_)<;>simp only [e]<;>clear e<;>refine g ?_) | refine Aa (hnum) rfl (g ?_) | refine Aa (hdf) rfl (g ?_))
    iterate 3 (exfalso;omega)
    ·refine Bq2 hcf (by exact Sbs.of_ (Dd 4) (Sbs.rfl_ _)) rfl (g ?_)
     refine g ?_
     repeat' refine st_ rfl (g ?_)
     have z1:=List.length_eq_zero_iff.1 (show v.known.length=0 by omega)
     have z2:=List.length_eq_zero_iff.1 (show v.zones.length=0 by omega)
     have z3:=List.length_eq_zero_iff.1 (show v.held.length=0 by omega)
     have z4:=List.length_eq_zero_iff.1 (show v.bodies.length=0 by omega)
     have z5:=List.length_eq_zero_iff.1 (show lb.length=0 by omega)
     have z6:=List.length_eq_zero_iff.1 (show ln.length=0 by omega)
     have z7:=List.length_eq_zero_iff.1 (show outs.length=0 by omega)
     have z8:=List.length_eq_zero_iff.1 (show subs.length=0 by omega)
     have z9:=List.length_eq_zero_iff.1 (show q.length=0 by omega)
     rw [<-hB,Vg,decide_eq_true ⟨z1,z2,z3,z4,z5,z6,z7,z8,z9,show tries=0 by omega,rfl⟩,Bool.true_and,Bj1]
    ·rw [<-hB,Vg,decide_eq_false (fun ⟨z1,z2,z3,z4,z5,z6,z7,z8,z9,z10,_⟩=>h (by
      simp only at z1 z2 z3 z4 z5 z6 z7 z8 z9 z10
      rw [z1,z2,z3,z4,z5,z6,z7,z8,z9,z10];rfl))]
     rfl
   ·refine g ?_
    repeat' (first | refine st_ rfl (g ?_) | refine Al (fun h=>g ?_) (fun h=>g ?_) | (refine B8 rfl rfl (fun h e=>?_) (fun h e=>?_)<;>simp only [e]<;>clear e<;>refine g ?_) | refine Aa (hnum) rfl (g ?_) | refine Aa (hdf) rfl (g ?_) | (refine C66 ?_)<;>refine g ?_)
    iterate 3 (exfalso;omega)
    all_goals first | (exfalso;omega) | (rw [<-hB,Vg,decide_eq_false (fun ⟨_,_,_,_,_,_,_,_,_,_,z⟩=>hs z)];rfl)
  | false =>
   simp only [Bool.false_eq_true,if_false] at hB
   refine g ?_
   repeat' (first | refine st_ rfl (g ?_) | refine Al (fun h=>g ?_) (fun h=>g ?_) | (refine B8 rfl rfl (fun h e=>?_) (fun h e=>?_)<;>simp only [e]<;>clear e<;>refine g ?_) | refine Aa (hnum) rfl (g ?_) | refine Aa (hdf) rfl (g ?_))
   iterate 3 (exfalso;omega)
   unfold Ad5 at hB
   simp only at hB
   have hvf:=Aq1 v iR
   have hlf:=A88 lg iS
   cases hV:At v with
   | false =>
    obtain rfl:B=false:=by rw [<-hB,hV];simp
    rw [hV] at hvf
    refine AW.drawn (ds:=[96,97,98,99,100,101,102,103,104,105,106,107,108,109,110,111,112,113,114,115]) (fin:=[]) (bs:=[0,0,0,0,0,0,0,0,0,0,0,0,0,0,0,0,0,0,0,0]) [⟨[],[],[],[],0⟩,⟨[(96,0)],[],[],[],0⟩,⟨[(97,1)],[],[],[],0⟩,⟨[(98,2)],[],[],[],0⟩,⟨[(99,3)],[],[],[],0⟩,⟨[],[],[],[],0⟩,⟨[(101,5)],[],[],[],0⟩,⟨[(102,6)],[],[],[],0⟩,⟨[(103,7)],[],[],[],0⟩,⟨[(100,4),(104,8)],[],[],[],0⟩,⟨[(105,9)],[],[],[],0⟩,⟨[],[],[],[],0⟩,⟨[(107,11)],[],[],[],0⟩,⟨[(108,12)],[],[],[],0⟩,⟨[],[],[],[],0⟩,⟨[(110,14)],[],[],[],0⟩,⟨[(111,15)],[],[],[],0⟩,⟨[(109,13),(112,16)],[],[],[],0⟩,⟨[(113,17)],[],[],[],0⟩,⟨[(106,10),(114,18)],[],[],[],0⟩] (by kernel_rfl) rfl (by kernel_rfl) rfl rfl rfl fun KD hKD=>?_
    refine g ?_
    repeat' (first | refine st_ rfl (g ?_) | exact trivial | (refine hKD _ _ ⟨rfl,g ?_⟩;clear hKD KD) | refine Aa (hvf) rfl (g ?_))
   | true =>
   rw [hV] at hvf
   cases hL:C6 lg with
   | false =>
    obtain rfl:B=false:=by rw [<-hB,hL];simp
    rw [hL] at hlf
    refine AW.drawn (ds:=[96,97,98,99,100,101,102,103,104,105,106,107,108,109,110,111,112,113,114,115]) (fin:=[]) (bs:=[0,0,0,0,0,0,0,0,0,0,0,0,0,0,0,0,0,0,0,0]) [⟨[],[],[],[],0⟩,⟨[(96,0)],[],[],[],0⟩,⟨[(97,1)],[],[],[],0⟩,⟨[(98,2)],[],[],[],0⟩,⟨[(99,3)],[],[],[],0⟩,⟨[],[],[],[],0⟩,⟨[(101,5)],[],[],[],0⟩,⟨[(102,6)],[],[],[],0⟩,⟨[(103,7)],[],[],[],0⟩,⟨[(100,4),(104,8)],[],[],[],0⟩,⟨[(105,9)],[],[],[],0⟩,⟨[],[],[],[],0⟩,⟨[(107,11)],[],[],[],0⟩,⟨[(108,12)],[],[],[],0⟩,⟨[],[],[],[],0⟩,⟨[(110,14)],[],[],[],0⟩,⟨[(111,15)],[],[],[],0⟩,⟨[(109,13),(112,16)],[],[],[],0⟩,⟨[(113,17)],[],[],[],0⟩,⟨[(106,10),(114,18)],[],[],[],0⟩] (by kernel_rfl) rfl (by kernel_rfl) rfl rfl rfl fun KD hKD=>?_
    refine g ?_
    repeat' (first | refine st_ rfl (g ?_) | exact trivial | (refine hKD _ _ ⟨rfl,g ?_⟩;clear hKD KD) | refine Aa (hvf) rfl (g ?_) | refine Aa (hlf) rfl (g ?_))
   | true =>
   rw [hL] at hlf
   have hkn:=Al1 lg iS hL
   have heq:=A29 (B4 lg.base lg.notes) v.known
   by_cases hK:B4 lg.base lg.notes=v.known
   rotate_left
   ·obtain rfl:B=false:=by rw [<-hB,Y2,if_pos hL,decide_eq_false hK];simp
    rw [decide_eq_false hK] at heq
    refine AW.drawn (ds:=[96,97,98,99,100,101,102,103,104,105,106,107,108,109,110,111,112,113,114,115]) (fin:=[]) (bs:=[0,0,0,0,0,0,0,0,0,0,0,0,0,0,0,0,0,0,0,0]) [⟨[],[],[],[],0⟩,⟨[(96,0)],[],[],[],0⟩,⟨[(97,1)],[],[],[],0⟩,⟨[(98,2)],[],[],[],0⟩,⟨[(99,3)],[],[],[],0⟩,⟨[],[],[],[],0⟩,⟨[(101,5)],[],[],[],0⟩,⟨[(102,6)],[],[],[],0⟩,⟨[(103,7)],[],[],[],0⟩,⟨[(100,4),(104,8)],[],[],[],0⟩,⟨[(105,9)],[],[],[],0⟩,⟨[],[],[],[],0⟩,⟨[(107,11)],[],[],[],0⟩,⟨[(108,12)],[],[],[],0⟩,⟨[],[],[],[],0⟩,⟨[(110,14)],[],[],[],0⟩,⟨[(111,15)],[],[],[],0⟩,⟨[(109,13),(112,16)],[],[],[],0⟩,⟨[(113,17)],[],[],[],0⟩,⟨[(106,10),(114,18)],[],[],[],0⟩] (by kernel_rfl) rfl (by kernel_rfl) rfl rfl rfl fun KD hKD=>?_
    refine g ?_
    repeat' (first | refine st_ rfl (g ?_) | exact trivial | (refine hKD _ _ ⟨rfl,g ?_⟩;clear hKD KD) | refine Aa (hvf) rfl (g ?_) | refine Aa (hlf) rfl (g ?_) | refine Aa (hkn) rfl (g ?_) | refine Aa (heq) rfl (g ?_))
   rw [decide_eq_true hK] at heq
   rw [hV,hL,Y2,if_pos hL,decide_eq_true hK,Bool.true_and,Bool.true_and,Bool.true_and] at hB
   refine AW.drawn (ds:=[96,97,98,99,100,101,102,103,104,105,106,107,108,109,110,111,112,113,114,115]) (fin:=[]) (bs:=[0,0,0,0,0,0,0,0,0,0,0,0,0,0,0,0,0,0,0,0]) [⟨[],[],[],[],0⟩,⟨[(96,0)],[],[],[],0⟩,⟨[(97,1)],[],[],[],0⟩,⟨[(98,2)],[],[],[],0⟩,⟨[(99,3)],[],[],[],0⟩,⟨[],[],[],[],0⟩,⟨[(101,5)],[],[],[],0⟩,⟨[(102,6)],[],[],[],0⟩,⟨[(103,7)],[],[],[],0⟩,⟨[(100,4),(104,8)],[],[],[],0⟩,⟨[(105,9)],[],[],[],0⟩,⟨[],[],[],[],0⟩,⟨[(107,11)],[],[],[],0⟩,⟨[(108,12)],[],[],[],0⟩,⟨[],[],[],[],0⟩,⟨[(110,14)],[],[],[],0⟩,⟨[(111,15)],[],[],[],0⟩,⟨[(109,13),(112,16)],[],[],[],0⟩,⟨[(113,17)],[],[],[],0⟩,⟨[(106,10),(114,18)],[],[],[],0⟩] (by kernel_rfl) rfl (by kernel_rfl) rfl rfl rfl fun KD hKD=>?_
   have hfo:=Ay3 outs lg.notes.length
   have hfs:=Ax8 subs
   cases hO:Fc lg.notes.length outs with
   | false =>
    obtain rfl:B=false:=by rw [<-hB,hO];simp
    rw [hO] at hfo
    refine g ?_
    repeat' (first | refine st_ rfl (g ?_) | exact trivial | (refine hKD _ _ ⟨rfl,g ?_⟩;clear hKD KD) | refine Aa (hvf) rfl (g ?_) | refine Aa (hlf) rfl (g ?_) | refine Aa (hkn) rfl (g ?_) | refine Aa (heq) rfl (g ?_) | refine Aa (hfo) rfl (g ?_))
   | true =>
   rw [hO] at hfo
   cases hS:D6 subs with
   | false =>
    obtain rfl:B=false:=by rw [<-hB,hS];simp
    rw [hS] at hfs
    refine g ?_
    repeat' (first | refine st_ rfl (g ?_) | exact trivial | (refine hKD _ _ ⟨rfl,g ?_⟩;clear hKD KD) | refine Aa (hvf) rfl (g ?_) | refine Aa (hlf) rfl (g ?_) | refine Aa (hkn) rfl (g ?_) | refine Aa (heq) rfl (g ?_) | refine Aa (hfo) rfl (g ?_) | refine Aa (hfs) rfl (g ?_))
   | true =>
   rw [hS] at hfs
   rw [hO,hS,Bool.true_and,Bool.true_and] at hB
   refine g ?_
   repeat' (first | refine st_ rfl (g ?_) | (refine hKD _ _ ⟨rfl,g ?_⟩;clear hKD KD) | refine Aa (hvf) rfl (g ?_) | refine Aa (hlf) rfl (g ?_) | refine Aa (hkn) rfl (g ?_) | refine Aa (heq) rfl (g ?_) | refine Aa (hfo) rfl (g ?_) | refine Aa (hfs) rfl (g ?_))
   refine AW.loop (fun m:{m:Nat // m<=outs.length/\∀ x∈outs.take m,¬ x.to_=me}=>⟨[(1,.ip [.val (.int .i64 me),stI v.known,znI v.zones,wrI v.held,boI v.bodies,.val (.int .i64 v.room),stI lg.base,noI lg.notes,.val (.int .i64 lg.sure),ouI outs,J2 subs,.val (.int .i64 tries),msI q,.val (.int .i64 dk.room),flI dk.files,.val (.bool false)]),(131,.iv (ouI outs)),(132,.val (.int .i64 (outs.length:Nat))),(133,.val (.int .i64 (m.1:Nat)))],[]⟩) (fun m=>outs.length - m.1) ⟨0,Nat.zero_le _,fun x hx=>by simp at hx⟩ id ⟨⟨rfl,rfl,rfl,rfl,trivial⟩,trivial,List.nodup_nil⟩ fun ⟨m,hm,ht⟩=>?_
   simp only
   repeat (refine AW.seq ?_)
   refine AW.reg rfl fun KK hKK=>?_
   refine g ?_
   repeat' (refine hKK _ (g ?_);clear hKK KK)
   repeat (refine AW.seq ?_)
   refine st_ rfl ?_
   refine g ?_
   refine Al (fun h=>?_) (fun h=>?_)
   ·have hlt:m < outs.length:=by omega
    refine st_ rfl (g ?_)
    refine g ?_
    repeat' (first | refine st_ rfl (g ?_) | refine Al (fun h=>g ?_) (fun h=>g ?_) | refine ix_ (by omega) (g ?_))
    ·rw [<-hB,Gp hlt (by simp [h])];rfl
    ·refine ⟨⟨m+1,hlt,fun x hx=>?_⟩,id,⟨⟨rfl,rfl,rfl,rfl,trivial⟩,trivial,List.nodup_nil⟩,by show outs.length - (m+1) < outs.length - m;omega⟩
     rw [List.take_succ_eq_append_getElem hlt] at hx
     rcases List.mem_append.1 hx with h1 | h1
     ·exact ht x h1
     ·rw [List.mem_singleton.1 h1];exact h
   obtain rfl:m=outs.length:=by omega
   rw [List.take_length] at ht
   rw [List.all_eq_true.2 (fun x hx=>by simp [ht x hx]),Bool.true_and] at hB
   refine AW.exit ?_
   simp only [reduceIte]
   refine g ?_
   repeat' refine st_ rfl (g ?_)
   refine AW.loop (fun m:{m:Nat // m<=q.length/\∀ x∈q.take m,Sq me x=true}=>⟨[(1,.ip [.val (.int .i64 me),stI v.known,znI v.zones,wrI v.held,boI v.bodies,.val (.int .i64 v.room),stI lg.base,noI lg.notes,.val (.int .i64 lg.sure),ouI outs,J2 subs,.val (.int .i64 tries),msI q,.val (.int .i64 dk.room),flI dk.files,.val (.bool false)]),(144,.iv (msI q)),(145,.val (.int .i64 (q.length:Nat))),(146,.val (.int .i64 (m.1:Nat)))],[]⟩) (fun m=>q.length - m.1) ⟨0,Nat.zero_le _,fun x hx=>by simp at hx⟩ id ⟨⟨rfl,rfl,rfl,rfl,trivial⟩,trivial,List.nodup_nil⟩ fun ⟨m,hm,ht⟩=>?_
   simp only
   repeat (refine AW.seq ?_)
   refine AW.reg rfl fun KK hKK=>?_
   refine g ?_
   repeat' (refine hKK _ (g ?_);clear hKK KK)
   repeat (refine AW.seq ?_)
   refine st_ rfl ?_
   refine g ?_
   refine Al (fun h=>?_) (fun h=>?_)
   ·have hlt:m < q.length:=by omega
    have hwf:=Ac8 q[m] (C31 hq hlt)
    refine st_ rfl (g ?_)
    refine g ?_
    repeat' (first | refine st_ rfl (g ?_) | refine De (fun h=>g ?_) (fun h=>g ?_) | (refine B8 rfl rfl (fun h e=>?_) (fun h e=>?_)<;>simp only [e]<;>clear e<;>refine g ?_) | refine ix_ (by omega) (g ?_) | refine Aa (hwf) rfl (g ?_))
    ·rw [<-hB,Gp hlt (by simp [Sq,h])];rfl
    ·rw [<-hB,Gp hlt (by simp only [Sq];simp at h;simp [h])];rfl
    ·rename_i h2
     refine ⟨⟨m+1,hlt,fun x hx=>?_⟩,id,⟨⟨rfl,rfl,rfl,rfl,trivial⟩,trivial,List.nodup_nil⟩,by show q.length - (m+1) < q.length - m;omega⟩
     rw [List.take_succ_eq_append_getElem hlt] at hx
     rcases List.mem_append.1 hx with h1 | h1
     ·exact ht x h1
     ·rw [List.mem_singleton.1 h1]
      simp only [Sq]
      simp at h h2
      simp [h,h2]
   obtain rfl:m=q.length:=by omega
   rw [List.take_length] at ht
   rw [List.all_eq_true.2 ht,Bool.true_and] at hB
   refine AW.exit ?_
   simp only [reduceIte]
   refine g ?_
   repeat' (first | refine st_ rfl (g ?_) | refine Aa (hat) rfl (g ?_))
   rw [<-hB,<-List.not_any_eq_all_not]
   unfold Ae4
   cases ha:subs.any (fun s=>decide (s.from_=me)) with
   | true=>rw [if_pos rfl];exact decide_eq_false (by omega)
   | false=>rfl
end Go.Proofs.YtahgkllhbggmgaaGreatDoor
