/- Clusters: what is formed (both). -/
import Derived.Test.YtahgkllhbggmgaaGreatDoorKCluSpec
import Derived.Test.YtahgkllhbggmgaaGreatDoorKMsgFormE
import Derived.Test.YtahgkllhbggmgaaGreatDoorKRefNode2
import Derived.Test.YtahgkllhbggmgaaGreatDoorKRefLog
import Derived.Test.YtahgkllhbggmgaaGreatDoorKMeet
set_option linter.all false
set_option linter.unnecessarySimpa false
set_option linter.unusedSimpArgs false
set_option linter.unusedVariables false
namespace Go.Proofs.YtahgkllhbggmgaaGreatDoor
open Go.ChangeShapes Go.WideShapes Go.ChangeAt Go.RowKit
theorem Sd {s h:List Nat} {i:Nat} (h1:i < s.length) (h2:i < h.length):N9 (s.take (i+1)) (h.take (i+1))=N9 (s.take i) (h.take i)+if s[i]=h[i] then 0 else 1:=by
 rw [List.take_succ_eq_append_getElem h1,List.take_succ_eq_append_getElem h2,Yk (by simp;omega)]
theorem A12:∀ (s h:List Nat),N9 s h<=s.length
 | [],h=>by cases h<;>simp [N9]
 | _ :: _,[]=>by simp [N9]
 | a :: s,b :: h=>by
  have:=A12 s h
  simp only [N9,List.length_cons]
  split<;>omega
attribute [local irreducible] AW AWY Bd As vop B4 Ap Aw qop Bc Bs Ai Ag Ay A7 Av CH Eo Hj
attribute [local go_sem] Dg Ue A07 B88 Ae Af
theorem An2 (n:Int):A7 Tryz.prog A8 127 [.val (.int .i64 n)] (.val (.bool (De n))) []:=by
 refine A7.of (n:=9) (rs:=[.tmp 2]) Tryz.func127 rfl (by kernel_rfl) Tryz.ntmps127 (by kernel_rfl) (by simp) (fun _ _=>A8.later) ?_
 intro hok V w0
 refine g ?_
 repeat' (first | refine Hz rfl (g ?_) | refine Bt (g ?_) | refine Ph rfl rfl (g ?_) | refine Pi rfl rfl (g ?_) | refine Mu (fun h=>g ?_) | apply Ms rfl rfl rfl rfl | refine Pg rfl rfl rfl rfl ?_ | exact Pd | refine Pe rfl ?_)
 unfold De
 grind
theorem Ak4 (a b:Int):A7 Tryz.prog A8 72 [.val (.int .i64 a),.val (.int .i64 b)] (.val (.bool (De a&&De b&&decide (a≠b)))) []:=by
 refine A7.of (n:=24) (rs:=[.tmp 4]) Tryz.func72 rfl (by kernel_rfl) Tryz.ntmps72 (by kernel_rfl) (by simp) (fun _ _=>A8.later) ?_
 intro hok V w0
 refine g ?_
 repeat' (first | refine Hz rfl (g ?_) | refine Bt (g ?_) | refine Ph rfl rfl (g ?_) | refine Pi rfl rfl (g ?_) | refine Mu (fun h=>g ?_) | apply Ms rfl rfl rfl rfl | apply U5 rfl rfl rfl rfl | refine Pg rfl rfl rfl rfl ?_ | exact Pd | refine Pe rfl ?_)
 unfold De
 grind
theorem Bi8 {l:List Pkt} (h:AV.okd (.iv (pkI l))) {m:Nat} (hm:m < l.length):l[m].sent.length<=1073741824:=by
 obtain ⟨-,o1,o2,o3,-⟩:=P3 (by simpa [pkI] using h.2) (Bc5 l[m]) (List.mem_map_of_mem (List.getElem_mem hm))
 simpa [byI] using o3.1
theorem Au1 {p:Pkt} (h:A36 p=true):p.sent.length=p.here.length:=by
 unfold A36 at h
 grind
set_option maxRecDepth 100000 in
theorem Ac3 (p:Pkt):A7 Tryz.prog A8 61 [pkA p] (.val (.bool (U0 p))) []:=by
 refine A7.of (n:=52) (rs:=[.tmp 2]) Tryz.func61 rfl (by kernel_rfl) Tryz.ntmps61 (by kernel_rfl) (by simp) (fun _ _=>A8.later) ?_
 intro hok V w0
 have hl1:p.sent.length<=1073741824:=by simpa [byI] using hok.1.2.2.1.1
 refine g ?_
 repeat' (first | refine Hz rfl (g ?_) | refine Bt (g ?_) | refine Da (fun h=>g ?_) (fun h=>g ?_) | refine Ph rfl rfl (g ?_) | refine Pi rfl rfl (g ?_) | refine Mu (fun h=>g ?_) | apply U5 rfl rfl rfl rfl | refine Pg rfl rfl rfl rfl ?_ | exact Pd | refine Pe rfl ?_ | refine Aa (An2 _) rfl (g ?_))
 ·unfold U0 A36
  unfold De at *
  grind
 ·have hE:A36 p=true:=by
   unfold A36
   unfold De at *
   grind
  have hll:=Au1 hE
  refine AW.loop (fun i:{i:Nat // i<=p.sent.length}=>⟨[(1,.bp 200 0),(3,.val (.int .i64 (N9 (p.sent.take i.1) (p.here.take i.1):Nat))),(33,.iv (byI p.sent)),(34,.val (.int .i64 (p.sent.length:Nat))),(35,.val (.int .i64 (i.1:Nat)))],[.box 200 [.val (.int .i64 p.from_),.val (.int .i64 p.to_),.iv (byI p.sent),.iv (byI p.here)]]⟩) (fun i=>p.sent.length - i.1) ⟨0,Nat.zero_le _⟩ id ⟨⟨rfl,rfl,rfl,rfl,rfl,trivial⟩,⟨rfl,trivial⟩,by simp [D4,BA.id]⟩ fun ⟨i,hi⟩=>?_
  simp only
  have hb:N9 (p.sent.take i) (p.here.take i)<=i:=Nat.le_trans (A12 _ _) (by simp;omega)
  refine g ?_
  repeat' (first | refine Hz rfl (g ?_) | refine Aj (fun h=>g ?_) (fun h=>g ?_) | refine ix_ (by omega) (g ?_))
  ·have hs:=Sd (s:=p.sent) (h:=p.here) (i:=i) (by omega) (by omega)
   rw [if_neg (by omega)] at hs
   exact ⟨⟨i+1,by omega⟩,id,⟨⟨rfl,by rw [hs];rfl,rfl,rfl,rfl,trivial⟩,⟨rfl,trivial⟩,by simp [D4,BA.id]⟩,by show p.sent.length - (i+1) < p.sent.length - i;omega⟩
  ·have hs:=Sd (s:=p.sent) (h:=p.here) (i:=i) (by omega) (by omega)
   rw [if_pos (by omega)] at hs
   exact ⟨⟨i+1,by omega⟩,id,⟨⟨rfl,by rw [hs];rfl,rfl,rfl,rfl,trivial⟩,⟨rfl,trivial⟩,by simp [D4,BA.id]⟩,by show p.sent.length - (i+1) < p.sent.length - i;omega⟩
  ·obtain rfl:i=p.sent.length:=by omega
   rw [List.take_length,List.take_of_length_le (by omega),U0,hE,Bool.true_and,decide_eq_decide]
   omega
theorem A14 (p:Pkt):A7 Tryz.prog A8 60 [pkA p] (.val (.bool (!U0 p))) []:=by
 refine A7.of (n:=6) (rs:=[.tmp 2]) Tryz.func60 rfl (by kernel_rfl) Tryz.ntmps60 (by kernel_rfl) (by simp) (fun _ _=>A8.later) ?_
 intro hok V w0
 refine g ?_
 repeat' (first | refine Hz rfl (g ?_) | exact trivial | refine Aa (Ac3 p) rfl (g ?_))
theorem Ao1 (l:List Pkt) (f:FuncId)  (p:Pkt->Bool) (hp:∀ x,A7 Tryz.prog A8 f [pkA x] (.val (.bool (p x))) []):A7 Tryz.prog A8 71 [.iv (pkI l),.fn f []] (.val (.int .i64 (if l.any p=true then ((l.findIdx p:Nat):Int) else -1))) []:=by
 refine A7.of (n:=19) (rs:=[.tmp 4]) Tryz.func71 rfl (by kernel_rfl) Tryz.ntmps71 (by kernel_rfl) (by simp) (fun _ _=>A8.later) ?_
 intro hok V w0
 have hlen:l.length<=1073741824:=by simpa [pkI] using hok.1.1
 refine g ?_
 repeat' refine st_ rfl (g ?_)
 refine AW.loop (fun m:{m:Nat // m<=l.length/\∀ x∈l.take m,p x=false}=>⟨[(0,.iv (pkI l)),(1,.fn f []),(7,.val (.int .i64 (l.length:Nat))),(8,.val (.int .i64 (m.1:Nat)))],[]⟩) (fun m=>l.length - m.1) ⟨0,Nat.zero_le _,fun x hx=>by simp at hx⟩ id ⟨⟨rfl,rfl,rfl,rfl,trivial⟩,trivial,List.nodup_nil⟩ fun ⟨m,hm,ht⟩=>?_
 refine g ?_
 repeat' (first | refine st_ rfl (g ?_) | refine Aj (fun h=>g ?_) (fun h=>g ?_) | refine Da (fun h=>g ?_) (fun h=>g ?_) | refine ix_ (by omega) (g ?_) | refine Aa (hp _) rfl (g ?_))
 ·have hlt:m < l.length:=by omega
  rw [if_pos (List.any_eq_true.2 ⟨_,List.getElem_mem hlt,h⟩),(List.findIdx_eq hlt).2 ⟨h,fun j hj=>ht _ (List.mem_take_iff_getElem.2 ⟨j,by omega,rfl⟩)⟩]
 ·refine ⟨⟨m+1,by omega,fun x hx=>?_⟩,id,⟨⟨rfl,rfl,rfl,rfl,trivial⟩,trivial,List.nodup_nil⟩,by show l.length - (m+1) < l.length - m;omega⟩
  rw [List.take_succ_eq_append_getElem (by omega)] at hx
  rcases List.mem_append.1 hx with h1 | h1
  ·exact ht x h1
  ·rw [List.mem_singleton.1 h1];exact h
 ·obtain rfl:m=l.length:=by omega
  rw [List.take_length] at ht
  rw [if_neg]
  rw [List.any_eq_true]
  rintro ⟨x,hx,hp⟩
  rw [ht x hx] at hp
  cases hp
theorem Ao6 (l:List Pkt) (f:FuncId)  (p:Pkt->Bool) (hp:∀ x,A7 Tryz.prog A8 f [pkA x] (.val (.bool (p x))) []):A7 Tryz.prog A8 27 [.iv (pkI l),.fn f []] (.val (.bool (l.any p))) []:=by
 refine A7.of (n:=9) (rs:=[.tmp 4]) Tryz.func27 rfl (by kernel_rfl) Tryz.ntmps27 (by kernel_rfl) (by simp) (fun _ _=>A8.later) ?_
 intro hok V w0
 have h1:=Ao1 l f  p hp
 cases ha:l.any p with
 | true =>
  rw [if_pos ha] at h1
  refine g ?_
  repeat' (first | refine st_ rfl (g ?_) | refine Aa (h1) rfl (g ?_))
  exact decide_eq_true (by omega)
 | false =>
  rw [if_neg (by rw [ha];decide)] at h1
  refine g ?_
  repeat' (first | refine st_ rfl (g ?_) | refine Aa (h1) rfl (g ?_))
  rfl
theorem Ao0 (l:List Pkt) (f:FuncId) (d:List IV) (p:Pkt->Bool) (hp:∀ x,A7 Tryz.prog A8 f [pkA x,.ip d] (.val (.bool (p x))) []):A7 Tryz.prog A8 71 [.iv (pkI l),.fn f [.ip d]] (.val (.int .i64 (if l.any p=true then ((l.findIdx p:Nat):Int) else -1))) []:=by
 refine A7.of (n:=19) (rs:=[.tmp 4]) Tryz.func71 rfl (by kernel_rfl) Tryz.ntmps71 (by kernel_rfl) (by simp) (fun _ _=>A8.later) ?_
 intro hok V w0
 have hlen:l.length<=1073741824:=by simpa [pkI] using hok.1.1
 refine g ?_
 repeat' refine st_ rfl (g ?_)
 refine AW.loop (fun m:{m:Nat // m<=l.length/\∀ x∈l.take m,p x=false}=>⟨[(0,.iv (pkI l)),(1,.fn f [.ip d]),(7,.val (.int .i64 (l.length:Nat))),(8,.val (.int .i64 (m.1:Nat)))],[]⟩) (fun m=>l.length - m.1) ⟨0,Nat.zero_le _,fun x hx=>by simp at hx⟩ id ⟨⟨rfl,rfl,rfl,rfl,trivial⟩,trivial,List.nodup_nil⟩ fun ⟨m,hm,ht⟩=>?_
 refine g ?_
 repeat' (first | refine st_ rfl (g ?_) | refine Aj (fun h=>g ?_) (fun h=>g ?_) | refine Da (fun h=>g ?_) (fun h=>g ?_) | refine ix_ (by omega) (g ?_) | refine Aa (hp _) rfl (g ?_))
 ·have hlt:m < l.length:=by omega
  rw [if_pos (List.any_eq_true.2 ⟨_,List.getElem_mem hlt,h⟩),(List.findIdx_eq hlt).2 ⟨h,fun j hj=>ht _ (List.mem_take_iff_getElem.2 ⟨j,by omega,rfl⟩)⟩]
 ·refine ⟨⟨m+1,by omega,fun x hx=>?_⟩,id,⟨⟨rfl,rfl,rfl,rfl,trivial⟩,trivial,List.nodup_nil⟩,by show l.length - (m+1) < l.length - m;omega⟩
  rw [List.take_succ_eq_append_getElem (by omega)] at hx
  rcases List.mem_append.1 hx with h1 | h1
  ·exact ht x h1
  ·rw [List.mem_singleton.1 h1];exact h
 ·obtain rfl:m=l.length:=by omega
  rw [List.take_length] at ht
  rw [if_neg]
  rw [List.any_eq_true]
  rintro ⟨x,hx,hp⟩
  rw [ht x hx] at hp
  cases hp
theorem Ao5 (l:List Pkt) (f:FuncId) (d:List IV) (p:Pkt->Bool) (hp:∀ x,A7 Tryz.prog A8 f [pkA x,.ip d] (.val (.bool (p x))) []):A7 Tryz.prog A8 27 [.iv (pkI l),.fn f [.ip d]] (.val (.bool (l.any p))) []:=by
 refine A7.of (n:=9) (rs:=[.tmp 4]) Tryz.func27 rfl (by kernel_rfl) Tryz.ntmps27 (by kernel_rfl) (by simp) (fun _ _=>A8.later) ?_
 intro hok V w0
 have h1:=Ao0 l f d p hp
 cases ha:l.any p with
 | true =>
  rw [if_pos ha] at h1
  refine g ?_
  repeat' (first | refine st_ rfl (g ?_) | refine Aa (h1) rfl (g ?_))
  exact decide_eq_true (by omega)
 | false =>
  rw [if_neg (by rw [ha];decide)] at h1
  refine g ?_
  repeat' (first | refine st_ rfl (g ?_) | refine Aa (h1) rfl (g ?_))
  rfl
theorem A18 (l:List Pkt):A7 Tryz.prog A8 25 [.iv (pkI l)] (.val (.bool (F5 l))) []:=by
 refine A7.of (n:=11) (rs:=[.tmp 2]) Tryz.func25 rfl (by kernel_rfl) Tryz.ntmps25 (by kernel_rfl) (by simp) (fun _ _=>A8.later) ?_
 intro hok V w0
 refine g ?_
 repeat' (first | refine Hz rfl (g ?_) | refine Bt (g ?_) | refine Ph rfl rfl (g ?_) | refine Pi rfl rfl (g ?_) | refine Mu (fun h=>g ?_) | apply Ms rfl rfl rfl rfl | refine Pg rfl rfl rfl rfl ?_ | exact Pd | refine Pe rfl ?_ | refine Aa (Ao6 l _ (fun x=>!U0 x) A14) rfl (g ?_))
 unfold F5
 rw [List.all_eq_not_any_not]
 grind
set_option maxRecDepth 100000 in
theorem Xl (l:List Pkt):A7 Tryz.prog A8 29 [.iv (pkI l)] (.val (.bool (F5 l))) []:=by
 refine A7.of (n:=57) (rs:=[.tmp 2]) Tryz.func29 rfl (by kernel_rfl) Tryz.ntmps29 (by kernel_rfl) (by simp) (fun _ _=>A8.later) ?_
 intro hok V w0
 have hlen:l.length<=1073741824:=by simpa [pkI] using hok.1.1
 refine g ?_
 repeat' (first | refine Hz rfl (g ?_) | refine Aj (fun h=>g ?_) (fun h=>g ?_))
 ·unfold F5
  grind
 ·refine AW.loop (fun m:{m:Nat // m<=l.length/\(l.take m).all U0=true}=>⟨[(0,.iv (pkI l)),(3,.val (.int .i64 (m.1:Nat)))],[]⟩) (fun m=>l.length - m.1) ⟨0,Nat.zero_le _,rfl⟩ id ⟨⟨rfl,rfl,trivial⟩,trivial,List.nodup_nil⟩ fun ⟨m,hm,ht⟩=>?_
  simp only
  refine g ?_
  repeat' (first | refine Hz rfl (g ?_) | refine Bt (g ?_) | refine Aj (fun h=>g ?_) (fun h=>g ?_) | refine Da (fun h=>g ?_) (fun h=>g ?_) | refine Ph rfl rfl (g ?_) | refine Pi rfl rfl (g ?_) | refine Mu (fun h=>g ?_) | apply U5 rfl rfl rfl rfl | refine Pg rfl rfl rfl rfl ?_ | exact Pd | refine Pe rfl ?_ | refine ix_ (by omega) (g ?_) | refine Aa (Ak4 _ _) rfl (g ?_))
  ·have hN:F5 l=false:=by
    have:l.all U0=false:=G8 (m:=m) (by omega) (by unfold U0 A36;unfold De at *;grind)
    rw [F5,this,Bool.and_false]
   exact hN.symm
  ·have hE:A36 l[m]=true:=by
    unfold A36
    unfold De at *
    grind
   have hll:=Au1 hE
   have hls:l[m].sent.length<=1073741824:=Bi8 hok.1 (by omega)
   refine AW.loop (fun k:{k:Nat // k<=l[m].sent.length}=>⟨[(0,.iv (pkI l)),(3,.val (.int .i64 (m:Nat))),(4,.bp 500 0),(5,.val (.int .i64 (N9 (l[m].sent.take k.1) (l[m].here.take k.1):Nat))),(6,.val (.int .i64 (k.1:Nat)))],[.box 500 [.val (.int .i64 l[m].from_),.val (.int .i64 l[m].to_),.iv (byI l[m].sent),.iv (byI l[m].here)]]⟩) (fun k=>l[m].sent.length - k.1) ⟨0,Nat.zero_le _⟩ id ⟨⟨rfl,rfl,rfl,rfl,rfl,trivial⟩,⟨rfl,trivial⟩,by simp [D4,BA.id]⟩ fun ⟨k,hk⟩=>?_
   simp only
   have hb:N9 (l[m].sent.take k) (l[m].here.take k)<=k:=Nat.le_trans (A12 _ _) (by simp;omega)
   repeat (refine AW.seq ?_)
   refine AW.reg rfl fun KK hKK=>?_
   refine g ?_
   repeat' (refine hKK _ (g ?_);clear hKK KK)
   repeat (refine AW.seq ?_)
   refine st_ rfl ?_
   refine g ?_
   refine Aj (fun h=>?_) (fun h=>?_)
   ·have hlt:k < l[m].sent.length:=by omega
    have hs:=Sd (s:=l[m].sent) (h:=l[m].here) (i:=k) hlt (by omega)
    refine st_ rfl (g ?_)
    refine AW.seq ?_
    refine AW.block ?_
    repeat (refine AW.seq ?_)
    refine AW.drawn (ds:=[42,43,44,45,46,47,48,49,50,51,52]) (fin:=[0]) (bs:=[1,1,1,1,1,1,1,1,1,1,1]) [⟨[],[],[],[],0⟩,⟨[(42,0)],[],[0],[],0⟩,⟨[],[],[],[],0⟩,⟨[(43,1),(44,2)],[],[0],[],0⟩,⟨[(45,3)],[],[0],[],0⟩,⟨[],[],[],[],0⟩,⟨[(47,5)],[],[0],[],0⟩,⟨[],[],[],[],0⟩,⟨[(48,6),(49,7)],[],[0],[],0⟩,⟨[(50,8)],[],[0],[],0⟩,⟨[(46,4),(51,9)],[],[],[],0⟩] (by kernel_rfl) rfl (by kernel_rfl) rfl rfl rfl fun KD hKD=>?_
    refine g ?_
    repeat' (first | refine st_ rfl (g ?_) | refine Aj (fun h=>g ?_) (fun h=>g ?_) | (refine hKD _ _ ⟨rfl,g ?_⟩;clear hKD KD) | refine ix_ (by omega) (g ?_))
    ·rw [if_neg (by omega)] at hs
     exact ⟨⟨k+1,hlt⟩,id,⟨⟨rfl,rfl,rfl,by rw [hs];rfl,rfl,trivial⟩,⟨rfl,trivial⟩,by simp [D4,BA.id]⟩,by show l[m].sent.length - (k+1) < l[m].sent.length - k;omega⟩
    ·rw [if_pos (by omega)] at hs
     exact ⟨⟨k+1,hlt⟩,id,⟨⟨rfl,rfl,rfl,by rw [hs];rfl,rfl,trivial⟩,⟨rfl,trivial⟩,by simp [D4,BA.id]⟩,by show l[m].sent.length - (k+1) < l[m].sent.length - k;omega⟩
   ·refine AW.exit ?_
    simp only [reduceIte]
    have hP:U0 l[m]=decide (N9 (l[m].sent.take k) (l[m].here.take k)<=1):=by rw [List.take_of_length_le (by omega),List.take_of_length_le (by omega),U0,hE,Bool.true_and]
    refine g ?_
    repeat' (first | refine st_ rfl (g ?_) | refine Aj (fun h=>g ?_) (fun h=>g ?_))
    ·have:l.all U0=false:=G8 (m:=m) (by omega) (by rw [hP];exact decide_eq_false (by omega))
     rw [F5,this,Bool.and_false]
    ·have hlt:m < l.length:=by omega
     exact ⟨⟨m+1,hlt,by rw [List.take_succ_eq_append_getElem hlt,List.all_append,ht,Bool.true_and,List.all_cons,List.all_nil,Bool.and_true,hP];exact decide_eq_true (by omega)⟩,id,⟨⟨rfl,rfl,trivial⟩,trivial,List.nodup_nil⟩,by show l.length - (m+1) < l.length - m;omega⟩
  ·obtain rfl:m=l.length:=by omega
   rw [List.take_length] at ht
   rw [F5,ht,decide_eq_true (by omega)]
   rfl
end Go.Proofs.YtahgkllhbggmgaaGreatDoor
namespace Go.Proofs.YtahgkllhbggmgaaGreatDoor
open Go.ChangeShapes Go.WideShapes Go.ChangeAt Go.RowKit
attribute [local irreducible] AW AWY Bd As vop B4 Ap Aw qop Bc Bs Ai Ag Ay A7 Av
attribute [local go_sem] Dg Mi L9 Gm J9 L6 N6 Kl Fx Fs Es Dx Ek Cr Qy Ae Af
def A46 (n:En):En:=⟨n.me,⟨[],[],[],[],n.view.room⟩,⟨[],[],0⟩,[],[],0,[],n.disk,true⟩
theorem B28 (n:En):Em (.agg [.val (.int .i64 n.me),.val (.slice none 0 0),.val (.slice none 0 0),.val (.slice none 0 0),.val (.slice none 0 0),.val (.int .i64 n.view.room),.val (.slice none 0 0),.val (.slice none 0 0),.val (.int .i64 0),.val (.slice none 0 0),.val (.slice none 0 0),.val (.int .i64 0),.val (.slice none 0 0),.val (.int .i64 n.disk.room),.iv (flI n.disk.files),.val (.bool true)]) (ndA (A46 n)):=by
 rw [J9,Gm]
 refine L0 rfl fun p hp=>?_
 simp only [A46,List.zip_cons_cons,List.zip_nil_right,List.mem_cons,List.not_mem_nil,or_false] at hp
 rcases hp with rfl | rfl | rfl | rfl | rfl | rfl | rfl | rfl | rfl | rfl | rfl | rfl | rfl | rfl | rfl | rfl
 all_goals first
  | exact Em.rfl_ _
  | exact Bx _
set_option maxRecDepth 100000 in
set_option maxHeartbeats 3200000 in
theorem Zy (n:En) (hI:Fv n) (hd:n.down=true):A7 Tryz.prog A8 30 [ndA n] (.val (.bool (C8 n))) []:=by
 have hs:=Vg n (A46 n) hI ⟨hI.me,hI.room,rfl,rfl,hI.droom⟩ _ _ _ _ _ _ (A84 n.view n.view.room hI.room hI.room) (Ak3 n.log hI.sure) (A86 n.outs) (Vd n.subs []) (Ay1 n.queue) (Te n.disk hI.droom)
 rw [show ndA n=.agg (ndC n) from rfl,Gm,hd] at hs
 have hdf:=Tf n.disk hI.droom
 have hnew:=Ax9 n.view.room
 unfold Xr at hnew
 refine A7.of (n:=143) (rs:=[.tmp 2]) Tryz.func30 rfl (by kernel_rfl) Tryz.ntmps30 (by kernel_rfl) (by simp) (fun _ _=>A8.later) ?_
 intro hok V w0
 obtain ⟨iM,iR,iS,iT,iD⟩:=hI
 have hq:AV.okd (.iv (msI n.queue)):=hok.1.2.2.2.2.2.2.2.2.2.2.2.2.1
 have l2:n.queue.length<=1073741824:=by simpa using hq.1
 obtain ⟨B,hB⟩ : ∃ B,C8 n=B:=⟨_,rfl⟩
 rw [hB]
 unfold C8 Aw4 at hB
 rw [hd,if_pos rfl] at hB
 unfold Af0 at hB
 refine g ?_
 refine AW.seq ?_
 refine AW.reg rfl fun KK hKK=>?_
 refine g ?_
 repeat' (refine hKK _ (g ?_);clear hKK KK)
 refine AW.freeze 200 _ rfl ⟨iM,trivial,trivial,trivial,trivial,iR,trivial,trivial,iS,trivial,trivial,iT,trivial,iD,trivial,trivial,trivial⟩ ?_
 simp only [go_sem,reduceIte,Nat.reduceEqDiff]
 rw [hd]
 cases hr:Jg n.view.room
 ·rw [if_neg (by simp [hr])] at hnew
  refine g ?_
  repeat' (first | refine st_ rfl (g ?_) | refine Aj (fun h=>g ?_) (fun h=>g ?_) | (refine B7 rfl rfl (fun h e=>?_) (fun h e=>?_)<;>simp only [e]<;>clear e<;>refine g ?_) | (refine Dm rfl rfl (fun h=>?_) (fun h=>?_)<;>simp only [h]<;>refine g ?_) | refine Aa (hdf) rfl (g ?_) | refine Aa (hnew) rfl (g ?_))
  all_goals (rw [<-hB];simp [hr])
 ·rw [if_pos hr] at hnew
  refine g ?_
  repeat' (first | refine st_ rfl (g ?_) | refine Aj (fun h=>g ?_) (fun h=>g ?_) | (refine B7 rfl rfl (fun h e=>?_) (fun h e=>?_)<;>simp only [e]<;>clear e<;>refine g ?_) | (refine Dm rfl rfl (fun h=>?_) (fun h=>?_)<;>simp only [h]<;>refine g ?_) | refine Aa (hdf) rfl (g ?_) | refine Aa (hnew) rfl (g ?_) | (refine A42 hs (Sbs.cons_ (Sbs.of_ (B28 n) (Sbs.rfl_ _))) rfl (g ?_))<;>refine g ?_)
  all_goals first
   | (rw [<-hB];simp [hr];done)
   | (rw [<-hB];simp [hr];omega)
   | (rw [<-hB];simp [hr];intros;omega)
   | (rw [<-hB];simp [*];done)
   | (simp at h;rw [<-hB];simp [hr,h];done)
   | skip
  have hm:n.me>=0/\n.me < 64/\0<=n.tries/\n.tries < 1099511627776/\n.queue.length<=4096:=by omega
  rename_i hdk
  simp at hdk
  rw [<-hB,hdk,hr,Bool.eq_iff_iff]
  simp [A46,hm,List.length_eq_zero_iff]
  constructor
  ·intro h
   have ht:n.tries=0:=of_decide_eq_true h.1.2
   simp_all
  ·intro h
   simp_all
end Go.Proofs.YtahgkllhbggmgaaGreatDoor
namespace Go.Proofs.YtahgkllhbggmgaaGreatDoor
open Go.ChangeShapes Go.WideShapes Go.ChangeAt Go.RowKit
attribute [local irreducible] AW AWY Bd As vop B4 Ap Aw qop Bc Bs Ai Ag Ay A7 Av
attribute [local go_sem] Fx K7 Fs Ae Af
set_option maxRecDepth 100000 in
theorem A00 (l:Log) (iS:I64 l.sure) (h:C0 l=true):A7 Tryz.prog A8 79 [Sj l] (.iv (stI (Ax l.base l.notes))) []:=by
 refine A7.ofS (n:=27) (rs:=[.tmp 2]) Tryz.func79 rfl (by kernel_rfl) Tryz.ntmps79 (by kernel_rfl) (by simp) (fun _ _=>A8.later) ?_
 intro hok V w0
 have hf:=Pw l iS
 rw [h] at hf
 have hlen:l.notes.length<=1073741824:=by simpa [noI] using hok.1.2.1.1
 refine g ?_
 refine AW.seq ?_
 refine AW.reg rfl fun KK hKK=>?_
 refine g ?_
 repeat' (refine hKK _ (g ?_);clear hKK KK)
 refine AW.freeze 200 _ rfl ⟨trivial,trivial,iS,trivial⟩ ?_
 simp only [go_sem,reduceIte,Nat.reduceEqDiff]
 refine g ?_
 repeat' (first | refine st_ rfl (g ?_) | refine Aa (hf) rfl (g ?_) | refine Aa (Zu _) rfl (g ?_))
 refine AW.loop (fun m:{m:Nat // m<=l.notes.length}=>⟨[(1,.ip [stI l.base,noI l.notes,.val (.int .i64 l.sure)]),(3,.iv (stI (Ax l.base (l.notes.take m.1)))),(4,.val (.int .i64 (m.1:Nat)))],[]⟩) (fun m=>l.notes.length - m.1) ⟨0,Nat.zero_le _⟩ id ⟨⟨rfl,rfl,rfl,trivial⟩,trivial,List.nodup_nil⟩ fun ⟨m,hm⟩=>?_
 simp only
 repeat (refine AW.seq ?_)
 refine AW.reg rfl fun KK hKK=>?_
 refine g ?_
 repeat' (refine hKK _ (g ?_);clear hKK KK)
 repeat (refine AW.seq ?_)
 refine st_ rfl ?_
 refine g ?_
 refine Aj (fun h=>?_) (fun h=>?_)
 ·have hlt:m < l.notes.length:=by omega
  refine st_ rfl (g ?_)
  refine g ?_
  repeat' (first | refine st_ rfl (g ?_) | refine ix_ (by omega) (g ?_) | refine Aa (B71 _ _) rfl (g ?_))
  refine ⟨⟨m+1,hlt⟩,id,⟨⟨rfl,?_,rfl,trivial⟩,trivial,List.nodup_nil⟩,by show l.notes.length - (m+1) < l.notes.length - m;omega⟩
  have e:Ax l.base (l.notes.take (m+1))=Dl [Ax l.base (l.notes.take m),l.notes[m].end_]:=by
   unfold Ax
   rw [List.take_succ_eq_append_getElem hlt,List.foldl_append]
   rfl
  exact congrArg (fun z=>AV.iv (stI z)) e.symm
 ·obtain rfl:m=l.notes.length:=by omega
  rw [List.take_length]
  refine AW.exit ?_
  simp only [reduceIte]
  refine g ?_
  repeat' refine st_ rfl (g ?_)
  exact Em.rfl_ _
end Go.Proofs.YtahgkllhbggmgaaGreatDoor
namespace Go.Proofs.YtahgkllhbggmgaaGreatDoor
open Go.ChangeShapes Go.WideShapes Go.ChangeAt Go.RowKit
attribute [local irreducible] AW AWY Bd As vop B4 Ap Aw qop Bc Bs Ai Ag Ay A7 Av
attribute [local go_sem] Dg Mi L9 Gm J9 L6 K8 Qg N6 Nn Kl Fx Fs Es Dx Ek Cr Qy Ae Af
set_option maxRecDepth 100000 in
set_option maxHeartbeats 6400000 in
theorem Ak1 (n:En) (hI:Fv n) (hd:n.down=false):A7 Tryz.prog A8 30 [ndA n] (.val (.bool (C8 n))) []:=by
 have hvf:=Aj8 n.view hI.room
 have hlf:=Pw n.log hI.sure
 have hkn:=A00 n.log hI.sure
 have heq:=Ep (Ax n.log.base n.log.notes) n.view.known
 have hfo:=A95 n.outs n.log.notes.length
 have hfs:=A94 n.subs
 have hsb:=Ax5 n n.me hI
 have hdf:=Tf n.disk hI.droom
 rw [show ndA n=.agg (ndC n) from rfl,Gm,hd] at hsb
 refine A7.of (n:=143) (rs:=[.tmp 2]) Tryz.func30 rfl (by kernel_rfl) Tryz.ntmps30 (by kernel_rfl) (by simp) (fun _ _=>A8.later) ?_
 intro hok V w0
 obtain ⟨iM,iR,iS,iT,iD⟩:=hI
 have hq:AV.okd (.iv (msI n.queue)):=hok.1.2.2.2.2.2.2.2.2.2.2.2.2.1
 have ho:AV.okd (.iv (ouI n.outs)):=hok.1.2.2.2.2.2.2.2.2.2.1
 have l1:n.outs.length<=1073741824:=by simpa using ho.1
 have l2:n.queue.length<=1073741824:=by simpa using hq.1
 have l3:n.log.notes.length<=1073741824:=by simpa using hok.1.2.2.2.2.2.2.2.1.1
 obtain ⟨B,hB⟩ : ∃ B,C8 n=B:=⟨_,rfl⟩
 rw [hB]
 unfold C8 Aw4 at hB
 rw [hd,if_neg (by simp)] at hB
 refine g ?_
 refine AW.seq ?_
 refine AW.reg rfl fun KK hKK=>?_
 refine g ?_
 repeat' (refine hKK _ (g ?_);clear hKK KK)
 refine AW.freeze 200 _ rfl ⟨iM,trivial,trivial,trivial,trivial,iR,trivial,trivial,iS,trivial,trivial,iT,trivial,iD,trivial,trivial,trivial⟩ ?_
 simp only [go_sem,reduceIte,Nat.reduceEqDiff]
 rw [hd]
 refine g ?_
 repeat' (first | refine st_ rfl (g ?_) | refine Aj (fun h=>g ?_) (fun h=>g ?_) | (refine B7 rfl rfl (fun h e=>?_) (fun h e=>?_)<;>simp only [e]<;>clear e<;>refine g ?_) | (refine Dm rfl rfl (fun h=>?_) (fun h=>?_)<;>simp only [h]<;>refine g ?_) | refine Aa (hdf) rfl (g ?_))
 all_goals first
  | (rw [<-hB];simp;done)
  | (rw [<-hB];simp;omega)
  | (rw [<-hB];simp;intros;omega)
  | (simp at h;rw [<-hB];simp [h];done)
  | skip
 refine AW.drawn (ds:=[61,62,63,64,65,66,67,68,69,70,71,72,73,74,75,76,77,78,79,80,81,82,83,84,85,86,87,88,89,90,91,92,93,94,95,96]) (fin:=[]) (bs:=[0,0,0,0,0,0,0,0,0,0,0,0,0,0,0,0,0,0,0,0,0,0,0,0,0,0,0,0,0,0,0,0,0,0,0,0]) [⟨[],[],[],[],0⟩,⟨[(61,0)],[],[],[],0⟩,⟨[(62,1)],[],[],[],0⟩,⟨[(63,2)],[],[],[],0⟩,⟨[(64,3)],[],[],[],0⟩,⟨[],[],[],[],0⟩,⟨[(66,5)],[],[],[],0⟩,⟨[(67,6)],[],[],[],0⟩,⟨[(68,7)],[],[],[],0⟩,⟨[(65,4),(69,8)],[],[],[],0⟩,⟨[(70,9)],[],[],[],0⟩,⟨[],[],[],[],0⟩,⟨[(72,11)],[],[],[],0⟩,⟨[(73,12)],[],[],[],0⟩,⟨[],[],[],[],0⟩,⟨[(75,14)],[],[],[],0⟩,⟨[(76,15)],[],[],[],0⟩,⟨[(74,13),(77,16)],[],[],[],0⟩,⟨[(78,17)],[],[],[],0⟩,⟨[(71,10),(79,18)],[],[],[],0⟩,⟨[(80,19)],[],[],[],0⟩,⟨[],[],[],[],0⟩,⟨[(82,21)],[],[],[],0⟩,⟨[],[],[],[],0⟩,⟨[(84,23)],[],[],[],0⟩,⟨[(85,24)],[],[],[],0⟩,⟨[(86,25)],[],[],[],0⟩,⟨[(83,22),(87,26)],[],[],[],0⟩,⟨[(88,27)],[],[],[],0⟩,⟨[(81,20),(89,28)],[],[],[],0⟩,⟨[(90,29)],[],[],[],0⟩,⟨[],[],[],[],0⟩,⟨[(92,31)],[],[],[],0⟩,⟨[(93,32)],[],[],[],0⟩,⟨[(94,33)],[],[],[],0⟩,⟨[(91,30),(95,34)],[],[],[],0⟩] (by kernel_rfl) rfl (by kernel_rfl) rfl rfl rfl fun KD hKD=>?_
 cases hL:C0 n.log
 ·rw [hL] at hlf
  refine g ?_
  repeat' (first | refine st_ rfl (g ?_) | (refine hKD _ _ ⟨rfl,g ?_⟩;clear hKD KD) | (refine Hr rfl rfl (fun h=>?_) (fun h=>?_)<;>simp only [h]<;>refine g ?_) | refine Aa (hvf) rfl (g ?_) | refine Aa (hlf) rfl (g ?_))
  all_goals (rw [<-hB];simp [B46,hL])
 rw [hL] at hlf
 refine g ?_
 repeat' (first | refine st_ rfl (g ?_) | refine Da (fun h=>g ?_) (fun h=>g ?_) | (refine hKD _ _ ⟨rfl,g ?_⟩;clear hKD KD) | (refine Hr rfl rfl (fun h=>?_) (fun h=>?_)<;>simp only [h]<;>refine g ?_) | refine Aa (hvf) rfl (g ?_) | refine Aa (hlf) rfl (g ?_) | refine Aa (hkn hL) rfl (g ?_) | refine Aa (heq) rfl (g ?_) | refine Aa (hfo) rfl (g ?_) | refine Aa (hfs) rfl (g ?_))
 all_goals first
  | (simp at h;rw [<-hB];simp [B46,Wb,hL,h];done)
  | skip
 rename_i g1 g2 g3 g4 g5 g6 g7 g8 g9
 have e5:Bp n.disk=true:=by simpa using g5
 have e7:Au n.view=true:=by simpa using g7
 have e8:Ax n.log.base n.log.notes=n.view.known:=by simpa using g8
 have e9:Eu n.log.notes.length n.outs=true:=by simpa using g9
 have e10:Ec n.subs=true:=by simpa using h
 have hm:(0<=n.me/\n.me < 64)/\(0<=n.tries/\n.tries < 1099511627776)/\n.queue.length<=4096:=by omega
 unfold B46 Wb at hB
 rw [if_pos hL,e5,e7,hL,e9,e10,decide_eq_true e8,decide_eq_true hm.1,decide_eq_true hm.2.1,decide_eq_true hm.2.2] at hB
 simp only [Bool.true_and] at hB
 clear g1 g2 g3 g4 g5 g6 g7 g8 g9
 refine AW.loop (fun m:{m:Nat // m<=n.outs.length/\∀ x∈n.outs.take m,¬ x.to_=n.me}=>⟨[(1,.ip [.val (.int .i64 n.me),stI n.view.known,znI n.view.zones,wrI n.view.held,boI n.view.bodies,.val (.int .i64 n.view.room),stI n.log.base,noI n.log.notes,.val (.int .i64 n.log.sure),ouI n.outs,Hu n.subs,.val (.int .i64 n.tries),msI n.queue,.val (.int .i64 n.disk.room),flI n.disk.files,.val (.bool false)]),(5,.val (.int .i64 (m.1:Nat)))],[]⟩) (fun m=>n.outs.length - m.1) ⟨0,Nat.zero_le _,fun x hx=>by simp at hx⟩ id ⟨⟨rfl,rfl,trivial⟩,trivial,List.nodup_nil⟩ fun ⟨m,hm,ht⟩=>?_
 simp only
 repeat (refine AW.seq ?_)
 refine AW.reg rfl fun KK hKK=>?_
 refine g ?_
 repeat' (refine hKK _ (g ?_);clear hKK KK)
 repeat (refine AW.seq ?_)
 refine st_ rfl ?_
 refine g ?_
 refine Aj (fun h=>?_) (fun h=>?_)
 ·have hlt:m < n.outs.length:=by omega
  refine st_ rfl (g ?_)
  refine AW.seq ?_
  refine AW.block ?_
  repeat (refine AW.seq ?_)
  refine AW.drawn (ds:=[104,105,106,107,108,109,110,111,112]) (fin:=[]) (bs:=[0,0,0,0,0,0,0,0,0]) [⟨[],[],[],[],0⟩,⟨[(104,0)],[],[],[],0⟩,⟨[],[],[],[],0⟩,⟨[(105,1),(106,2)],[],[],[],0⟩,⟨[(107,3)],[],[],[],0⟩,⟨[(108,4)],[],[],[],0⟩,⟨[],[],[],[],0⟩,⟨[(110,6)],[],[],[],0⟩,⟨[(109,5),(111,7)],[],[],[],0⟩] (by kernel_rfl) rfl (by kernel_rfl) rfl rfl rfl fun KD hKD=>?_
  refine g ?_
  repeat' (first | refine st_ rfl (g ?_) | refine Aj (fun h=>g ?_) (fun h=>g ?_) | (refine hKD _ _ ⟨rfl,g ?_⟩;clear hKD KD) | refine ix_ (by omega) (g ?_))
  ·rw [<-hB,G8 hlt (by simp [h])];rfl
  ·refine ⟨⟨m+1,hlt,fun x hx=>?_⟩,id,⟨⟨rfl,rfl,trivial⟩,trivial,List.nodup_nil⟩,by show n.outs.length - (m+1) < n.outs.length - m;omega⟩
   rw [List.take_succ_eq_append_getElem hlt] at hx
   rcases List.mem_append.1 hx with h1 | h1
   ·exact ht x h1
   ·rw [List.mem_singleton.1 h1];exact h
 obtain rfl:m=n.outs.length:=by omega
 rw [List.take_length] at ht
 rw [List.all_eq_true.2 (fun x hx=>by simp [ht x hx]),Bool.true_and] at hB
 refine AW.exit ?_
 simp only [reduceIte]
 refine g ?_
 repeat' (first | refine st_ rfl (g ?_) | refine Aj (fun h=>g ?_) (fun h=>g ?_) | refine Aa (hsb) rfl (g ?_))
 ·have ha:n.subs.any (fun s=>decide (s.from_=n.me))=true:=by
   unfold A74 at h
   by_cases ha:n.subs.any (fun s=>decide (s.from_=n.me))=true
   ·exact ha
   ·rw [if_neg ha] at h;omega
  rw [<-hB,<-List.not_any_eq_all_not,ha]
  simp
 have ha:n.subs.any (fun s=>decide (s.from_=n.me))=false:=by
  cases ha:n.subs.any (fun s=>decide (s.from_=n.me)) with
  | false=>rfl
  | true =>
   exfalso
   unfold A74 at h
   rw [if_pos ha] at h
   omega
 rw [<-List.not_any_eq_all_not,ha,Bool.not_false,Bool.and_true] at hB
 refine AW.loop (fun m:{m:Nat // m<=n.queue.length/\∀ x∈n.queue.take m,Rj n.me x=true}=>⟨[(1,.ip [.val (.int .i64 n.me),stI n.view.known,znI n.view.zones,wrI n.view.held,boI n.view.bodies,.val (.int .i64 n.view.room),stI n.log.base,noI n.log.notes,.val (.int .i64 n.log.sure),ouI n.outs,Hu n.subs,.val (.int .i64 n.tries),msI n.queue,.val (.int .i64 n.disk.room),flI n.disk.files,.val (.bool false)]),(6,.val (.int .i64 (m.1:Nat)))],[]⟩) (fun m=>n.queue.length - m.1) ⟨0,Nat.zero_le _,fun x hx=>by simp at hx⟩ id ⟨⟨rfl,rfl,trivial⟩,trivial,List.nodup_nil⟩ fun ⟨m,hm,ht⟩=>?_
 simp only
 repeat (refine AW.seq ?_)
 refine AW.reg rfl fun KK hKK=>?_
 refine g ?_
 repeat' (refine hKK _ (g ?_);clear hKK KK)
 repeat (refine AW.seq ?_)
 refine st_ rfl ?_
 refine g ?_
 refine Aj (fun h=>?_) (fun h=>?_)
 ·have hlt:m < n.queue.length:=by omega
  have hwf:=A92 n.queue[m] (Bp1 hq hlt)
  refine st_ rfl (g ?_)
  refine AW.seq ?_
  refine AW.block ?_
  repeat (refine AW.seq ?_)
  refine AW.drawn (ds:=[125,126,127,128,129,130,131,132,133,134,135,136,137,138,139,140,141,142]) (fin:=[]) (bs:=[0,0,0,0,0,0,0,0,0,0,0,0,0,0,0,0,0,0]) [⟨[],[],[],[],0⟩,⟨[(125,0)],[],[],[],0⟩,⟨[],[],[],[],0⟩,⟨[(126,1),(127,2)],[],[],[],0⟩,⟨[(128,3)],[],[],[],0⟩,⟨[(129,4)],[],[],[],0⟩,⟨[(130,5)],[],[],[],0⟩,⟨[(131,6)],[],[],[],0⟩,⟨[],[],[],[],0⟩,⟨[(133,8)],[],[],[],0⟩,⟨[],[],[],[],0⟩,⟨[(134,9),(135,10)],[],[],[],0⟩,⟨[(136,11)],[],[],[],0⟩,⟨[(137,12)],[],[],[],0⟩,⟨[],[],[],[],0⟩,⟨[(139,14)],[],[],[],0⟩,⟨[(138,13),(140,15)],[],[],[],0⟩,⟨[(132,7),(141,16)],[],[],[],0⟩] (by kernel_rfl) rfl (by kernel_rfl) rfl rfl rfl fun KD hKD=>?_
  refine g ?_
  repeat' (first | refine st_ rfl (g ?_) | refine Aj (fun h=>g ?_) (fun h=>g ?_) | (refine hKD _ _ ⟨rfl,g ?_⟩;clear hKD KD) | (refine Hr rfl rfl (fun h=>?_) (fun h=>?_)<;>simp only [h]<;>refine g ?_) | refine ix_ (by omega) (g ?_) | refine Aa (hwf) rfl (g ?_))
  ·rw [<-hB,G8 hlt (by simp only [Rj];simp at h;simp [h])]
  ·rw [<-hB,G8 hlt (by simp only [Rj,decide_eq_false h,Bool.false_and])]
  ·rename_i h2
   refine ⟨⟨m+1,hlt,fun x hx=>?_⟩,id,⟨⟨rfl,rfl,trivial⟩,trivial,List.nodup_nil⟩,by show n.queue.length - (m+1) < n.queue.length - m;omega⟩
   rw [List.take_succ_eq_append_getElem hlt] at hx
   rcases List.mem_append.1 hx with h1 | h1
   ·exact ht x h1
   ·rw [List.mem_singleton.1 h1]
    simp only [Rj]
    simp at h h2
    simp [h,h2]
 obtain rfl:m=n.queue.length:=by omega
 rw [List.take_length] at ht
 refine AW.exit ?_
 simp only [reduceIte]
 refine g ?_
 repeat' refine st_ rfl (g ?_)
 rw [<-hB]
 exact (List.all_eq_true.2 ht).symm
theorem Zz (n:En) (hI:Fv n):A7 Tryz.prog A8 30 [ndA n] (.val (.bool (C8 n))) []:=by
 cases hd:n.down
 ·exact Ak1 n hI hd
 ·exact Zy n hI hd
end Go.Proofs.YtahgkllhbggmgaaGreatDoor
namespace Go.Proofs.YtahgkllhbggmgaaGreatDoor
open Go.ChangeShapes Go.WideShapes Go.ChangeAt Go.RowKit
theorem A37 (n:En):B16 n=[.val (.int .i64 n.me),stI n.view.known,znI n.view.zones,wrI n.view.held,boI n.view.bodies,.val (.int .i64 n.view.room),stI n.log.base,noI n.log.notes,.val (.int .i64 n.log.sure),ouI n.outs,Hu n.subs,.val (.int .i64 n.tries),msI n.queue,.val (.int .i64 n.disk.room),flI n.disk.files,.val (.bool n.down)]:=rfl
attribute [local irreducible] AW AWY Bd As vop B4 Ap Aw qop Bc Bs Ai Ag Ay A7 Av CH Eo Hj
attribute [local go_sem] Dg Ue A07 B88 A37 An4 X2 X1 J9 Gm Ae Af
theorem Tj {l:List En} {i:Nat} (h:i < l.length):Fh 0 (l.take (i+1))=(Fh 0 (l.take i)&&(decide (l[i].me=(i:Int))&&C8 l[i])):=by
 rw [List.take_succ_eq_append_getElem h,L5]
 have:(l.take i).length=i:=by simp;omega
 simp [Fh,this]
theorem Bd4 {c:Clu} {i:Nat} (h:i < c.nodes.length) (hp:(decide ¬ c.nodes[i].me=(i:Int) || !C8 c.nodes[i])=true):false=Fu c:=by
 have:Fh 0 c.nodes=false:=by
  rw [<-List.take_append_drop (i+1) c.nodes,L5,Tj h]
  have h2:¬ c.nodes[i].me=(i:Int)\/C8 c.nodes[i]=false:=by simpa using hp
  rcases h2 with h2 | h2<;>simp [h2]
 rw [Fu,this]
 simp
theorem Af6 {l:List En} {i:Nat} (h:i < l.length) (hp:(decide ¬ l[i].me=(i:Int) || !C8 l[i])=false) (ht:Fh 0 (l.take i)=true):Fh 0 (l.take (i+1))=true:=by
 rw [Tj h,ht,Bool.true_and,Bool.and_eq_true,decide_eq_true_eq]
 simpa using hp
theorem Uf {c:Clu} (h:(decide ((c.nodes.length:Int) < 1) || decide (64 < (c.nodes.length:Int)) || !F5 c.net)=false) (ht:Fh 0 c.nodes=true):Fu c=c.net.all fun p=>decide (p.from_ < c.nodes.length)&&decide (p.to_ < c.nodes.length):=by
 rw [Fu,ht]
 grind
set_option maxRecDepth 100000 in
theorem Ag0 (p:Pkt) (ns:List En) (net:List Pkt):A7 Tryz.prog A8 28 [pkA p,.ip [ndI ns,pkI net]] (.val (.bool (!(decide (p.from_ < ns.length)&&decide (p.to_ < ns.length))))) []:=by
 refine A7.of (n:=13) (rs:=[.tmp 3]) Tryz.func28 rfl (by kernel_rfl) Tryz.ntmps28 (by kernel_rfl) (by simp) (fun _ _=>A8.later) ?_
 intro hok V w0
 refine g ?_
 repeat' refine Hz rfl (g ?_)
 refine ⟨_,rfl,Bt (g ?_)⟩
 refine g ?_
 repeat' refine Hz rfl (g ?_)
 rw [Bool.eq_iff_iff]
 simp
 omega
set_option maxRecDepth 100000 in
theorem X3 (c:Clu) (hI:∀ x∈c.nodes,Fv x):A7 Tryz.prog A8 10 [clA c] (.val (.bool (Fu c))) []:=by
 refine A7.of (n:=44) (rs:=[.tmp 2]) Tryz.func10 rfl (by kernel_rfl) Tryz.ntmps10 (by kernel_rfl) (by simp) (fun _ _=>A8.later) ?_
 intro hok V w0
 have hlen:c.nodes.length<=1073741824:=by simpa [ndI] using hok.1.1.1
 refine g ?_
 refine AW.seq ?_
 refine AW.reg rfl fun KK hKK=>?_
 refine g ?_
 repeat' (refine hKK _ (g ?_);clear hKK KK)
 refine AW.freeze 200 _ rfl ⟨trivial,trivial,trivial⟩ ?_
 simp only [go_sem,reduceIte,Nat.reduceEqDiff]
 refine g ?_
 repeat' (first | refine Hz rfl (g ?_) | refine Bt (g ?_) | refine Da (fun h=>g ?_) (fun h=>g ?_) | refine Ph rfl rfl (g ?_) | refine Pi rfl rfl (g ?_) | refine Mu (fun h=>g ?_) | apply Ms rfl rfl rfl rfl | apply U5 rfl rfl rfl rfl | refine Pg rfl rfl rfl rfl ?_ | exact Pd | refine Pe rfl ?_ | refine Aa (A18 _) rfl (g ?_))
 ·unfold Fu
  grind
 ·refine AW.loop (fun m:{m:Nat // m<=c.nodes.length/\Fh 0 (c.nodes.take m)=true}=>⟨[(1,.ip [ndI c.nodes,pkI c.net]),(22,.iv (ndI c.nodes)),(23,.val (.int .i64 (c.nodes.length:Nat))),(24,.val (.int .i64 (m.1:Nat)))],[]⟩) (fun m=>c.nodes.length - m.1) ⟨0,Nat.zero_le _,rfl⟩ id ⟨⟨rfl,rfl,rfl,rfl,trivial⟩,trivial,List.nodup_nil⟩ fun ⟨m,hm,ht⟩=>?_
  simp only
  repeat (refine AW.seq ?_)
  refine AW.reg rfl fun KK hKK=>?_
  refine g ?_
  repeat' (refine hKK _ (g ?_);clear hKK KK)
  repeat (refine AW.seq ?_)
  refine st_ rfl ?_
  refine g ?_
  refine Aj (fun h=>?_) (fun h=>?_)
  ·have hlt:m < c.nodes.length:=by omega
   refine st_ rfl (g ?_)
   refine g ?_
   repeat' (first | refine Hz rfl (g ?_) | refine Bt (g ?_) | refine Da (fun h=>g ?_) (fun h=>g ?_) | refine Ph rfl rfl (g ?_) | refine Pi rfl rfl (g ?_) | refine Mu (fun h=>g ?_) | apply Ms rfl rfl rfl rfl | refine Pg rfl rfl rfl rfl ?_ | exact Pd | refine Pe rfl ?_ | refine ix_ (by omega) (g ?_) | refine Aa (An3 c.nodes[m] (hI _ (List.getElem_mem hlt))) rfl (g ?_))
   ·exact Bd4 hlt h
   ·exact ⟨⟨m+1,hlt,Af6 hlt h ht⟩,id,⟨⟨rfl,rfl,rfl,rfl,trivial⟩,trivial,List.nodup_nil⟩,by show c.nodes.length - (m+1) < c.nodes.length - m;omega⟩
  ·refine AW.exit ?_
   simp only [reduceIte]
   refine g ?_
   repeat' (first | refine Hz rfl (g ?_) | refine Aa (Ao5 c.net _ [ndI c.nodes,pkI c.net] _ (fun x=>Ag0 x c.nodes c.net)) rfl (g ?_))
   obtain rfl:m=c.nodes.length:=by omega
   rw [List.take_length] at ht
   rw [Uf (by assumption) ht,List.all_eq_not_any_not]
set_option maxRecDepth 100000 in
theorem Tg (c:Clu) (hI:∀ x∈c.nodes,Fv x):A7 Tryz.prog A8 11 [clA c] (.val (.bool (Fu c))) []:=by
 refine A7.of (n:=74) (rs:=[.tmp 2]) Tryz.func11 rfl (by kernel_rfl) Tryz.ntmps11 (by kernel_rfl) (by simp) (fun _ _=>A8.later) ?_
 intro hok V w0
 have hlen:c.nodes.length<=1073741824:=by simpa [ndI] using hok.1.1.1
 have hln:c.net.length<=1073741824:=by simpa [pkI] using hok.1.2.1.1
 refine g ?_
 refine AW.seq ?_
 refine AW.reg rfl fun KK hKK=>?_
 refine g ?_
 repeat' (refine hKK _ (g ?_);clear hKK KK)
 refine AW.freeze 200 _ rfl ⟨trivial,trivial,trivial⟩ ?_
 simp only [go_sem,reduceIte,Nat.reduceEqDiff]
 refine g ?_
 repeat' (first | refine Hz rfl (g ?_) | refine Bt (g ?_) | refine Da (fun h=>g ?_) (fun h=>g ?_) | refine Ph rfl rfl (g ?_) | refine Pi rfl rfl (g ?_) | refine Mu (fun h=>g ?_) | apply Ms rfl rfl rfl rfl | apply U5 rfl rfl rfl rfl | refine Pg rfl rfl rfl rfl ?_ | exact Pd | refine Pe rfl ?_ | refine Aa (Xl _) rfl (g ?_))
 ·unfold Fu
  grind
 ·refine AW.loop (fun m:{m:Nat // m<=c.nodes.length/\Fh 0 (c.nodes.take m)=true}=>⟨[(1,.ip [ndI c.nodes,pkI c.net]),(3,.val (.int .i64 (m.1:Nat)))],[]⟩) (fun m=>c.nodes.length - m.1) ⟨0,Nat.zero_le _,rfl⟩ id ⟨⟨rfl,rfl,trivial⟩,trivial,List.nodup_nil⟩ fun ⟨m,hm,ht⟩=>?_
  simp only
  repeat (refine AW.seq ?_)
  refine AW.reg rfl fun KK hKK=>?_
  refine g ?_
  repeat' (refine hKK _ (g ?_);clear hKK KK)
  repeat (refine AW.seq ?_)
  refine st_ rfl ?_
  refine g ?_
  refine Aj (fun h=>?_) (fun h=>?_)
  ·have hlt:m < c.nodes.length:=by omega
   refine st_ rfl (g ?_)
   refine g ?_
   repeat' (first | refine Hz rfl (g ?_) | refine Bt (g ?_) | refine Da (fun h=>g ?_) (fun h=>g ?_) | refine Ph rfl rfl (g ?_) | refine Pi rfl rfl (g ?_) | refine Mu (fun h=>g ?_) | apply Ms rfl rfl rfl rfl | refine Pg rfl rfl rfl rfl ?_ | exact Pd | refine Pe rfl ?_ | refine ix_ (by omega) (g ?_) | refine Aa (Zz c.nodes[m] (hI _ (List.getElem_mem hlt))) rfl (g ?_))
   ·exact Bd4 hlt h
   ·exact ⟨⟨m+1,hlt,Af6 hlt h ht⟩,id,⟨⟨rfl,rfl,trivial⟩,trivial,List.nodup_nil⟩,by show c.nodes.length - (m+1) < c.nodes.length - m;omega⟩
  ·refine AW.exit ?_
   simp only [reduceIte]
   refine g ?_
   repeat' refine Hz rfl (g ?_)
   refine AW.loop (fun m:{m:Nat // m<=c.net.length/\(c.net.take m).all (fun p=>decide (p.from_ < c.nodes.length)&&decide (p.to_ < c.nodes.length))=true}=>⟨[(1,.ip [ndI c.nodes,pkI c.net]),(4,.val (.int .i64 (m.1:Nat)))],[]⟩) (fun m=>c.net.length - m.1) ⟨0,Nat.zero_le _,rfl⟩ id ⟨⟨rfl,rfl,trivial⟩,trivial,List.nodup_nil⟩ fun ⟨q,hq,hp⟩=>?_
   simp only
   repeat (refine AW.seq ?_)
   refine AW.reg rfl fun KK hKK=>?_
   refine g ?_
   repeat' (refine hKK _ (g ?_);clear hKK KK)
   repeat (refine AW.seq ?_)
   refine st_ rfl ?_
   refine g ?_
   refine Aj (fun h=>?_) (fun h=>?_)
   ·have hlq:q < c.net.length:=by omega
    refine st_ rfl (g ?_)
    refine AW.seq ?_
    refine AW.block ?_
    repeat (refine AW.seq ?_)
    refine AW.drawn (ds:=[52,53,54,55,56,57,58,59,60,61,62,63,64,65,66,67,68,69,70,71,72,73]) (fin:=[]) (bs:=[0,0,0,0,0,0,0,0,0,0,0,0,0,0,0,0,0,0,0,0,0,0]) [⟨[],[],[],[],0⟩,⟨[(52,0)],[],[],[],0⟩,⟨[],[],[],[],0⟩,⟨[(53,1),(54,2)],[],[],[],0⟩,⟨[(55,3)],[],[],[],0⟩,⟨[(56,4)],[],[],[],0⟩,⟨[],[],[],[],0⟩,⟨[(58,6)],[],[],[],0⟩,⟨[(59,7)],[],[],[],0⟩,⟨[(57,5),(60,8)],[],[],[],0⟩,⟨[(61,9)],[],[],[],0⟩,⟨[],[],[],[],0⟩,⟨[(63,11)],[],[],[],0⟩,⟨[],[],[],[],0⟩,⟨[(64,12),(65,13)],[],[],[],0⟩,⟨[(66,14)],[],[],[],0⟩,⟨[(67,15)],[],[],[],0⟩,⟨[],[],[],[],0⟩,⟨[(69,17)],[],[],[],0⟩,⟨[(70,18)],[],[],[],0⟩,⟨[(68,16),(71,19)],[],[],[],0⟩,⟨[(62,10),(72,20)],[],[],[],0⟩] (by kernel_rfl) rfl (by kernel_rfl) rfl rfl rfl fun KD hKD=>?_
    refine g ?_
    repeat' (first | refine st_ rfl (g ?_) | refine Aj (fun h=>g ?_) (fun h=>g ?_) | (refine hKD _ _ ⟨rfl,g ?_⟩;clear hKD KD) | (refine Ee rfl rfl (fun h e=>?_) (fun h e=>?_)<;>simp only [e]<;>clear e<;>refine g ?_) | refine ix_ (by omega) (g ?_))
    all_goals have htt:Fh 0 c.nodes=true:=by rw [List.take_of_length_le (by omega)] at ht;exact ht
    ·rw [Uf (by assumption) htt,G8 hlq (by simp;omega)]
    ·rw [Uf (by assumption) htt,G8 hlq (by simp;omega)]
    ·exact ⟨⟨q+1,hlq,by rw [List.take_succ_eq_append_getElem hlq,List.all_append,hp];simp;omega⟩,id,⟨⟨rfl,rfl,trivial⟩,trivial,List.nodup_nil⟩,by show c.net.length - (q+1) < c.net.length - q;omega⟩
   ·refine AW.exit ?_
    simp only [reduceIte]
    refine g ?_
    repeat' refine Hz rfl (g ?_)
    obtain rfl:m=c.nodes.length:=by omega
    obtain rfl:q=c.net.length:=by omega
    rw [List.take_length] at ht hp
    rw [Uf (by assumption) ht,hp]
end Go.Proofs.YtahgkllhbggmgaaGreatDoor
