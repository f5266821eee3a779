/- What is laid on a formed disk leaves it formed. Plain. -/
import Derived.Test.YtblfjaedaijfoaaGreatDoorQViewEnc
import Derived.Test.YtblfjaedaijfoaaGreatDoorQVecLaw
import Derived.Laws.BitsAllLaws
set_option linter.all false
set_option linter.unnecessarySimpa false
set_option linter.unusedSimpArgs false
set_option linter.unusedVariables false
namespace Go.Proofs.YtblfjaedaijfoaaGreatDoor
open Go.ChangeShapes Go.WideShapes Go.ChangeAt Go.RowKit
structure F8 where
 number:Int
 bytes:List Nat
 sure:Int
 deriving DecidableEq
structure Gw where
 room:Int
 files:List F8
 deriving DecidableEq
def Q1:Gw:=⟨0,[]⟩
def enF (f:F8):List IV:=[.val (.int .i64 f.number),byI f.bytes,.val (.int .i64 f.sure)]
def flI (l:List F8):IV:=.sl 3 (l.map enF)
def dkA (d:Gw):AV:=.agg [.val (.int .i64 d.room),.iv (flI d.files)]
theorem Hu (f:F8):enF f=[.val (.int .i64 f.number),byI f.bytes,.val (.int .i64 f.sure)]:=rfl
theorem Fs (l:List F8):flI l=.sl 3 (l.map enF):=rfl
theorem F6 (d:Gw):dkA d=.agg [.val (.int .i64 d.room),.iv (flI d.files)]:=rfl
def Jp (l:List F8):Nat:=(l.map (·.bytes.length)).sum
def J6:Int->List F8->Int
 | e,[]=>e
 | _,f :: l=>J6 f.number l
def Yb (room:Int) (u:Nat) (e:Int) (f:F8):Bool:=decide (e < f.number/\f.number<=1048576/\0<=f.sure/\f.sure<=f.bytes.length/\(f.bytes.length:Int)<=room - u)
def F5 (room:Int):Nat->Int->List F8->Bool
 | _,_,[]=>true
 | u,e,f :: l=>Yb room u e f&&F5 room (u+f.bytes.length) f.number l
def Bs (d:Gw):Bool:=decide (0<=d.room/\d.room<=16777216)&&F5 d.room 0 (-1) d.files
theorem Nk {room:Int} : ∀ {a b:List F8} {u:Nat} {e:Int},F5 room u e (a++b)=(F5 room u e a&&F5 room (u+Jp a) (J6 e a) b)
 | [],b,u,e=>rfl
 | f :: a,b,u,e=>by
  simp only [List.cons_append,F5,Nk (a:=a),Bool.and_assoc,J6,Jp,List.map_cons,List.sum_cons,Nat.add_assoc]
theorem Qo (a b:List F8):Jp (a++b)=Jp a+Jp b:=by simp [Jp]
theorem Vj:∀ (a b:List F8) (e:Int),J6 e (a++b)=J6 (J6 e a) b
 | [],_,_=>rfl
 | f :: a,b,_=>Vj a b f.number
theorem Aa0 {l:List F8} {m:Nat} (h:m < l.length):l.take (m+1)=l.take m++[l[m]]:=List.take_succ_eq_append_getElem h
theorem Ay1 {room:Int} {l:List F8} {m:Nat} (h:m < l.length) (ht:F5 room 0 (-1) (l.take m)=true):F5 room 0 (-1) l=(Yb room (Jp (l.take m)) (J6 (-1) (l.take m)) l[m]&&F5 room (Jp (l.take m)+l[m].bytes.length) l[m].number (l.drop (m+1))):=by
 conv=>lhs;rw [<-List.take_append_drop m l,List.drop_eq_getElem_cons h]
 rw [Nk,ht,Bool.true_and,Nat.zero_add]
 rfl
theorem A49 {room:Int} {l:List F8} {m:Nat} (h:m < l.length) (ht:F5 room 0 (-1) (l.take m)=true) (hf:Yb room (Jp (l.take m)) (J6 (-1) (l.take m)) l[m]=true) :
  F5 room 0 (-1) (l.take (m+1))=true/\Jp (l.take (m+1))=Jp (l.take m)+l[m].bytes.length/\J6 (-1) (l.take (m+1))=l[m].number:=by
 rw [Aa0 h]
 refine ⟨by rw [Nk,ht,Nat.zero_add];simp [F5,hf],by rw [Qo];simp [Jp],by rw [Vj];rfl⟩
theorem Q8 {room:Int} (h0:0<=room):∀ {l:List F8} {u:Nat} {e:Int},(u:Int)<=room->F5 room u e l=true->((u+Jp l:Nat):Int)<=room
 | [],u,e,h,_=>by simpa [Jp] using h
 | f :: l,u,e,h,hf=>by
  simp only [F5,Yb,Bool.and_eq_true,decide_eq_true_eq] at hf
  have:=Q8 h0 (l:=l) (u:=u+f.bytes.length) (e:=f.number) (by omega) hf.2
  simp only [Jp,List.map_cons,List.sum_cons] at this ⊢
  omega
theorem A32:∀ {l:List F8} {e:Int} (h:l≠[]),J6 e l=(l.getLast h).number
 | [f],_,_=>rfl
 | f :: g :: l,_,_=>by rw [List.getLast_cons (by simp)];exact A32 (l:=g :: l) (e:=f.number) (by simp)
def A95 (d:Gw):Int:=if Bs d=true then (Jp d.files:Nat) else 0
def Aj5 (l:List F8) (n:Int):Nat:=l.findIdx fun f=>decide (n<=f.number)
def A42 (l:List F8) (n:Int):Option F8:=l.find? fun f=>decide (f.number=n)
def Bh8 (n:Int) (b:List Nat):List F8->List F8
 | []=>[⟨n,b,0⟩]
 | f :: l=>if f.number < n then f :: Bh8 n b l else if f.number=n then ⟨n,f.bytes++b,f.sure⟩ :: l else ⟨n,b,0⟩ :: f :: l
def D76 (d:Gw) (n:Int) (b:List Nat):Gw×Int :=
 if Bs d=true/\0<=n/\n<=1048576 then (if (b.length:Int) > d.room - Jp d.files then (Q1,7) else (⟨d.room,Bh8 n b d.files⟩,0)) else (Q1,1)
def Bf0 (f:F8):F8:=⟨f.number,f.bytes,(f.bytes.length:Nat)⟩
def Zk (d:Gw):Gw×Int:=if Bs d=true then (⟨d.room,d.files.map Bf0⟩,0) else (Q1,1)
def A30 (d:Gw):Int:=if Bs d=true then J6 (-1) d.files else -1
def Ci9 (d:Gw) (f:List Nat):Gw×Int :=
 if max (A30 d) 0+1 > 1048576 then (Q1,15) else if Bs d=true then D76 (Zk d).1 (max (A30 d) 0+1) f else (Q1,1)
def E10 (d:Gw) (f:List Nat):Gw×Int :=
 match d.files.getLast? with
 | some x=>if x.bytes=[]\/x.bytes.length+f.length<=512 then D76 d x.number f else Ci9 d f
 | none=>Ci9 d f
def Yp:Nat->Nat->List Nat
 | 0,n=>[n]
 | k+1,n=>if n < 128 then [n] else (n % 128+128) :: Yp k (n / 128)
def Gh (n:Nat):List Nat:=Yp 8 n
def Gb (l:List Int):List Nat:=l.flatMap fun n=>Gh n.toNat
def Yk (l:List Ab):List Nat:=Gh l.length++l.flatMap fun s=>Gb [s.node,s.count]
def B53 (l:List Ao):List Nat:=Gh l.length++l.flatMap fun s=>Gb [s.lo,s.hi]
def Nc (w:Ap):List Nat:=Gb [w.object,w.stamp.node,w.stamp.count,if w.gone=true then 1 else 0]
def Ag7 (l:List Ap):List Nat:=Gh l.length++l.flatMap Nc
def A24 (n:Bc):List Nat:=Yk n.start++Yk n.end_++B53 n.blur++Ag7 n.writes
def B10 (x:C1):List Nat:=Gb [x.object,x.stamp.node,x.stamp.count]++(Gh x.value.length++x.value)
theorem Vd:∀ {k n:Nat},(Yp k n).length<=k+1
 | 0,n=>by simp [Yp]
 | k+1,n=>by
  unfold Yp
  split
  ·simp
  ·simp only [List.length_cons]
   have:=Vd (k:=k) (n:=n / 128)
   omega
theorem Bo3 {k n:Nat} (h:128<=n):Yp (k+1) n=(n % 128+128) :: Yp k (n / 128):=by
 conv=>lhs;unfold Yp
 rw [if_neg (by omega)]
theorem Bo4 {k n:Nat} (h:n < 128):Yp k n=[n]:=by cases k with
 | zero=>rfl
 | succ k=>unfold Yp;rw [if_pos h]
def A70:List Nat:=[0x00000000,0x1db71064,0x3b6e20c8,0x26d930ac,0x76dc4190,0x6b6b51f4,0x4db26158,0x5005713c,0xedb88320,0xf00f9344,0xd6d6a3e8,0xcb61b38c,0x9b64c2b0,0x86d3d2d4,0xa00ae278,0xbdbdf21c]
def Y8 (c:Nat):Nat:=(c / 16)^^^(A70.getD (c % 16) 0)
def Bi7 (c x:Nat):Nat:=Y8 (Y8 (c^^^x))
def Tb (c:Nat) (l:List Nat):Nat:=l.foldl Bi7 c
def Yr (n:Nat):List Nat:=[n / 16777216 % 256,n / 65536 % 256,n / 256 % 256,n % 256]
def Bv1 (l:List Nat):Nat:=4294967295 - Tb 4294967295 l
def Uz (p:List Nat):List Nat:=Yr p.length++Yr (Bv1 (Yr p.length++p))++p
def Ks (d:Gw) (p:List Nat):Gw×Int:=if p.length<=1048576/\Bs d=true then E10 d (Uz p) else (Q1,1)
def Dv3 (d:Gw) (p:List Nat):Gw×Int:=if p.length<=1048576/\Bs d=true then Ci9 d (Uz p) else (Q1,1)
theorem Vn {c:Nat} (h:c < 4294967296):Y8 c < 4294967296:=by
 unfold Y8
 refine Nat.xor_lt_two_pow (n:=32) (by omega) ?_
 exact (show ∀ k,k < 16->A70.getD k 0 < 2 ^ 32 by decide) _ (Nat.mod_lt _ (by omega))
theorem C43 {c x:Nat} (h:c < 4294967296) (hx:x < 256):Bi7 c x < 4294967296:=Vn (Vn (Nat.xor_lt_two_pow (n:=32) h (by omega)))
theorem Vf:∀ {l:List Nat} {c:Nat},c < 4294967296->(∀ x∈l,x < 256)->Tb c l < 4294967296
 | [],_,h,_=>h
 | x :: l,c,h,hl=>Vf (l:=l) (C43 h (hl x (by simp))) fun y hy=>hl y (by simp [hy])
theorem Vg (c:Nat) (a b:List Nat):Tb c (a++b)=Tb (Tb c a) b:=by simp [Tb]
theorem Al7 (n:Nat):∀ x∈Yr n,x < 256:=by
 intro x hx
 simp only [Yr,List.mem_cons,List.not_mem_nil,or_false] at hx
 omega
def Xj (w:World):Prop:=∀ j,j < 16->w.cell? ⟨0,j,none⟩=some (.int .u32 (A70.getD j 0:Nat))
theorem Xj.next {w w1:World} (h:Xj w) (hb:Below w.heap.size w w1):Xj w1:=fun j hj=>As hb (h j hj)
def H7 (w:World):Prop:=A8 w/\Xj w
theorem H7.later {w w':World} (h:H7 w) (hb:Below w.heap.size w w'):H7 w':=⟨h.1.next hb,h.2.next hb⟩
theorem Yw {a b:Nat} (ha:a < 4294967296) (hb:b < 4294967296):bits .xor .u32 (a:Int) (b:Int)=((a^^^b:Nat):Int):=by
 simpa using u32_xor (a:Int) (b:Int) (by omega) (by omega) (by omega) (by omega)
theorem Bi9 {a:Nat} (ha:a < 4294967296):bits .and .u32 (a:Int) 15=((a % 16:Nat):Int):=by
 have:=u32_and (a:Int) 15 (by omega) (by omega) (by omega) (by omega)
 rw [this]
 congr 1
 simpa using Nat.and_two_pow_sub_one_eq_mod a 4
theorem Bv0 (k:Nat):A70.getD k 0 < 4294967296:=by
 by_cases h:k < 16
 ·exact (show ∀ k,k < 16->A70.getD k 0 < 4294967296 by decide) k h
 ·rw [List.getD_eq_getElem?_getD,List.getElem?_eq_none (by simp [A70];omega)];simp
theorem Cc4 {w:World} {B:Nat} {v:Value} {l:List Nat} (h:W8 w B v l) {m x:Nat} (hx:l[m]? = some x):∃ b off c,v=.slice (some ⟨b,off,none⟩) l.length c/\b < B/\w.cell? ⟨b,off+m,none⟩=some (.int .u8 (x:Int))/\x < 256:=by
 obtain ⟨A,c,rfl,_,_,h3⟩:=h
 obtain ⟨b,off,rfl,hb,h4⟩:=h3 (by rintro rfl;simp at hx)
 obtain ⟨cs,⟨rfl,hlt⟩,_,h5⟩:=h4 m x hx
 have:=h5 0 _ rfl
 rw [Nat.mul_one,Nat.add_zero] at this
 exact ⟨b,off,c,rfl,hb,this,hlt⟩
set_option maxRecDepth 100000 in
set_option maxHeartbeats 1600000 in
theorem Br1 (c:Nat) (l:List Nat) (v:Value) (w:World) (hc:c < 4294967296) (h:W8 w w.heap.size v l) (hT:Xj w) :
  Calls Tryz.prog 232 #[.int .u32 (c:Int),v] w fun e w'=>e=.returned (.int .u32 ((Tb c l:Nat):Int))/\w=w':=by
 have hle:=h.len_le
 obtain ⟨A,cp,rfl,_⟩:=id h
 go_enter Tryz.func232,Tryz.ntmps232
 go_wp2_with fail
 go_loopw [0,9] (fun q k wr=>∃ (m C:Nat),m<=l.length/\C < 4294967296/\k=.int .i64 m/\q=.int .u32 (C:Int)/\Tb c (l.take m)=C/\wr=w) (fun _ k _=>l.length - (intOf k).toNat)
 case atStart=>exact ⟨0,c,Nat.zero_le _,hc,rfl,rfl,rfl,rfl⟩
 case round =>
  obtain ⟨m,C,hm,hC,rfl,rfl,hmc,rfl⟩:=hrel
  by_cases hlt:m < l.length
  ·obtain ⟨x,hx⟩ : ∃ x,l[m]? = some x:=⟨l[m],List.getElem?_eq_getElem hlt⟩
   obtain ⟨b,off,c',hv',hbb,e0,hx8⟩:=Cc4 h hx
   injection hv' with hv1 hv2 hv3
   subst hv1
   have Ht:=Lib.hid (Du hx)
   have Hm:=Lib.hid hmc
   obtain ⟨D,hD⟩ : ∃ D,C^^^x=D:=⟨_,rfl⟩
   have hD2:D < 4294967296:=by rw [<-hD];exact Nat.xor_lt_two_pow (n:=32) hC (by omega)
   have x1:=Yw hC (show x < 4294967296 by omega)
   rw [hD] at x1
   have a1:=Bi9 hD2
   obtain ⟨T1,hT1⟩ : ∃ T,A70.getD (D % 16) 0=T:=⟨_,rfl⟩
   have t1:=hT (D % 16) (Nat.mod_lt _ (by omega))
   rw [hT1] at t1
   have tl1:T1 < 4294967296:=hT1 ▸ Bv0 _
   obtain ⟨F,hF⟩ : ∃ F,Y8 D=F:=⟨_,rfl⟩
   have hF2:F < 4294967296:=by rw [<-hF];exact Vn hD2
   have x2:bits .xor .u32 ((D:Int) / 16) (T1:Int)=(F:Int):=by
    rw [<-hF,Y8,hT1,show (D:Int) / 16=((D / 16:Nat):Int) by omega]
    exact Yw (by omega) tl1
   have a2:=Bi9 hF2
   obtain ⟨T2,hT2⟩ : ∃ T,A70.getD (F % 16) 0=T:=⟨_,rfl⟩
   have t2:=hT (F % 16) (Nat.mod_lt _ (by omega))
   rw [hT2] at t2
   have tl2:T2 < 4294967296:=hT2 ▸ Bv0 _
   obtain ⟨Z,hZ⟩ : ∃ Z,Y8 F=Z:=⟨_,rfl⟩
   have hZ2:Z < 4294967296:=by rw [<-hZ];exact Vn hF2
   have x3:bits .xor .u32 ((F:Int) / 16) (T2:Int)=(Z:Int):=by
    rw [<-hZ,Y8,hT2,show (F:Int) / 16=((F / 16:Nat):Int) by omega]
    exact Yw (by omega) tl2
   have HZ:=Lib.hid (show Bi7 C x=Z by rw [Bi7,hD,hF,hZ])
   clear hx hv2 hv3 hmc hT1 hT2 hD hF hZ
   go_wp2_with fail
   refine ⟨⟨m+1,Z,by omega,hZ2,by go_num,rfl,?_,trivial⟩,by simp [intOf];omega⟩
   rw [Ht.out,Vg,Hm.out]
   exact HZ.out
  ·have hend:m=l.length:=by omega
   subst hend
   rw [List.take_length] at hmc
   go_wp2_with fail
   go_ret
   exact ⟨by rw [hmc];rfl,rfl⟩
end Go.Proofs.YtblfjaedaijfoaaGreatDoor
