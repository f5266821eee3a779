/- A part of a log, as it is seen, told in batches (the program's). -/
import Derived.Test.YthlgnjlpakimaaaGreatDoorVLogAll
import Derived.Test.YthlgnjlpakimaaaGreatDoorVNoteThrough
import Derived.Test.YthlgnjlpakimaaaGreatDoorVSpanLess
import Derived.Test.YthlgnjlpakimaaaGreatDoorVNoteMerge
set_option linter.all false
set_option linter.unnecessarySimpa false
set_option linter.unusedSimpArgs false
set_option linter.unusedVariables false
namespace Go.Proofs.YthlgnjlpakimaaaGreatDoor
open Go.ChangeShapes Go.WideShapes Go.ChangeAt Go.RowKit
attribute [local irreducible] AW AWY Cf Bf vop Bw Bh Bx qop Cg Cz Az Aw C5 A7 Bl
attribute [local go_sem] Lk Lm Kj Ce Ap Ar Vt
theorem B82 (l:Log) (a:Int) (it:List Ad) (iS:I64 l.sure) (iA:I64 a):A7 Tryz.prog A9 105 [Ug l,.val (.int .i64 a),.iv (spI it)] (.fn 171 [Yu l,.ip [.val (.int .i64 a)],.ip [spI it]]) []:=by
 have h:A7 Tryz.prog A9 105 [Ug l,.val (.int .i64 a),.iv (spI it)] (.fn 171 [.bp 0 0,.bp 1 0,.bp 2 0]) [.box 0 [.iv (stI l.base),.iv (noI l.notes),.val (.int .i64 l.sure)],.box 1 [.val (.int .i64 a)],.box 2 [.iv (spI it)]]:=by
  refine A7.of (n:=8) (rs:=[.tmp 6]) Tryz.func105 rfl (by kernel_rfl) Tryz.ntmps105 (by kernel_rfl) (by simp) (fun _ _=>A9.later) ?_
  intro hok V w0
  refine g ?_
  refine g ?_
  repeat' refine st_ rfl (g ?_)
  first | exact ⟨.inl trivial,fun b=>400+100*b,rfl,⟨rfl,rfl,rfl⟩,by simp⟩ | exact ⟨fun b=>400+100*b,rfl,⟨rfl,rfl,rfl⟩,by simp⟩
 exact ((h.frz ⟨trivial,trivial,iS,trivial⟩).frz ⟨iA,trivial⟩).frz ⟨trivial,trivial⟩
theorem A9.calm:Cm9 A9:=fun w r o' h ⟨o,ho,hc⟩ =>
 fun j hj=>L1 (h j hj) (grownBy_putObj' w r o') fun r' e=>by cases e;exact ⟨o,ho,hc⟩
def thr (it:List Ad) (p:Aq×Nat):Aq×Nat:=(Dl p.1 it,p.2)
def Tg (l:Log) (a:Nat) (it:List Ad):List (Aq×Nat):=Si (Fg l it) a
theorem Wq (l:Log) (a:Nat) (it:List Ad):Tg l a it=(Jj l.notes a l.sure.toNat).map (thr it):=by
 unfold Tg Fg Si Jj
 rw [<-List.map_drop,List.zipIdx_map]
 rfl
set_option maxHeartbeats 1600000 in
set_option maxRecDepth 100000 in
theorem B81 (l:Log) (a:Nat) (it:List Ad) (iS:I64 l.sure) (iA:I64 a) (hF:C0 l=true):Bl Tryz.prog A9 171 [Yu l,.ip [.val (.int .i64 (a:Nat))],.ip [spI it]] enL (fun ys=>ys=Tg l a it) (fun pre=>pre <+: Tg l a it):=by
 refine Bl.ofR (n:=29) Tryz.func171 rfl (by kernel_rfl) Tryz.ntmps171 (by kernel_rfl) (by simp) (fun _ _=>A9.later) ?_
 intro hok Y hro
 have he:Aq3 l a=Si l.notes a:=by unfold Aq3;rw [if_pos hF]
 refine g ?_
 refine g ?_
 repeat' refine Gs rfl (g ?_)
 refine Ab (Ba7 l a iS iA) rfl ?_
 refine g ?_
 repeat' refine Gs rfl (g ?_)
 refine AWY.freeze 500 _ rfl ⟨trivial,trivial⟩ ?_
 simp only [go_sem,reduceIte,Nat.reduceEqDiff]
 refine AWY.le (S:=⟨[(1,Yu l),(2,.ip [.val (.int .i64 (a:Nat))]),(3,.ip [spI it]),(4,.ip [.val (.func (.yield Y.l) #[] #[])]),(11,.fn 210 [Yu l,.ip [.val (.int .i64 (a:Nat))]])],[]⟩) (ρ:=id) ⟨⟨rfl,rfl,rfl,rfl,rfl,trivial⟩,trivial,List.nodup_nil⟩ ?_
 refine AWY.range (Ba6 l a iS) A9.calm (fun pre q=>q=pre.map (thr it)/\(pre=[]\/a+pre.length<=l.sure)) ⟨rfl,.inl rfl⟩ hro rfl rfl rfl (fun x=>⟨rfl,rfl⟩) (fun Y1 hY1 pre x q hsp hI=>?_) (fun xs q hS hI=>?_)
 ·obtain ⟨hp1,hp2,hp3⟩:=Am4 (he ▸ hsp)
  obtain ⟨n,i⟩:=x
  simp only at hp2 hp3
  obtain ⟨hlt,hn⟩:=List.getElem?_eq_some_iff.1 hp3
  have hfn:Ag n=true:=Nw hF n (hn ▸ List.getElem_mem hlt)
  obtain ⟨hq,hI⟩:=hI
  refine AWY.frzEnd 700 ?_
  simp only [T9,enL,List.cons_append,List.nil_append]
  refine g ?_
  refine g ?_
  repeat' refine Gs rfl (g ?_)
  refine ⟨rfl,_,rfl,⟨trivial,trivial,trivial,trivial,trivial⟩,?_⟩
  simp only [go_sem,reduceIte,Nat.reduceEqDiff]
  intro Y2 hY2
  refine g ?_
  repeat' (first | refine Gs rfl (g ?_) | refine C9 (fun h=>g ?_) (fun h=>g ?_))
  ·have hge:l.sure<=(i:Int):=by simpa using h
   show (Exit.ret=Exit.ret\/_)/\q=Tg l a it
   refine ⟨.inl rfl,?_⟩
   rw [hq,Wq]
   congr 1
   rcases hI with rfl | hI
   ·simp only [List.length_nil,Nat.add_zero] at hp2
    unfold Jj
    rw [List.drop_of_length_le (by rw [List.length_take];omega)]
    rfl
   ·rw [hp1]
    congr 1
    omega
  ·have hls:(i:Int) < l.sure:=by simpa using h
   refine Ab (Ad1 n it hfn) rfl ?_
   refine g ?_
   repeat' refine Gs rfl (g ?_)
   have hnx:(pre++[(n,i)]).map (thr it)=q++[(Dl n it,i)]:=by rw [List.map_append,<-hq];rfl
   have hpx:pre++[(n,i)]=Jj l.notes a (a+pre.length+1):=by rw [X9 (by omega) hlt,hn,<-hp1,hp2]
   refine Q7 (x:=(Dl n it,i)) ?_ ?_ ?_ ?_
   ·rw [hY2];rfl
   ·exact Sbs.rfl_ _
   ·rw [<-hnx,Wq,hpx]
    have:Jj l.notes a (a+pre.length+1) <+: Jj l.notes a l.sure.toNat:=by
     have h1:l.notes.take (a+pre.length+1) <+: l.notes.take l.sure.toNat:=List.take_prefix_take_left (by omega)
     obtain ⟨t,ht⟩:=h1
     unfold Jj
     rw [<-ht,List.drop_append]
     exact Z9 (List.prefix_append _ _) a
    obtain ⟨t,ht⟩:=this
    exact ⟨t.map (thr it),by rw [<-ht,List.map_append]⟩
   simp only [go_sem]
   refine ⟨by simp [Gj,okA],?_,?_⟩
   ·refine g ?_
    repeat' refine Gs rfl (g ?_)
    exact ⟨hnx.symm,.inr (by rw [List.length_append,List.length_singleton];omega)⟩
   ·refine g ?_
    repeat' refine Gs rfl (g ?_)
    exact ⟨.inl rfl,trivial⟩
 ·simp only [go_sem,reduceIte]
  refine ⟨.inr trivial,?_⟩
  have hS:xs=Si l.notes a:=hS.trans he
  rw [hI.1,Wq]
  congr 1
  rcases hI.2 with h | h
  ·have:=Nc l.notes a l.sure.toNat
   rw [<-hS,h,List.prefix_nil] at this
   rw [h,this]
  ·have hl:xs.length=l.notes.length - a:=by rw [hS];simp [Si]
   rw [hS,<-Rx (i:=max a l.notes.length) (by omega)]
   by_cases ha:a<=l.notes.length
   ·rw [Rx (by omega),Rx (by omega)]
   ·rw [Rx (by omega)]
    have h0:xs=[]:=List.length_eq_zero_iff.1 (by omega)
    have:=Nc l.notes a l.sure.toNat
    rw [<-hS,h0,List.prefix_nil] at this
    rw [<-hS,h0,this]
end Go.Proofs.YthlgnjlpakimaaaGreatDoor
namespace Go.Proofs.YthlgnjlpakimaaaGreatDoor
variable {it : List Ad} {m : Int} {X : List Aq} {a : Nat} {pre : List (Aq × Nat)}
def Mq (it:List Ad) (pre:List (Aq×Nat)):List Aq:=Ha it [] (pre.map (·.1))
structure Ge (it:List Ad) (m:Int) (X:List Aq) (a:Nat) (pre:List (Aq×Nat)):Prop where
 goes:Ez it m [] a (X.drop a)=Ez it m (Mq it pre) (a+pre.length) (X.drop (a+pre.length))
 formed:∀ n∈Mq it pre,Ag n=true
 len:(Mq it pre).length<=pre.length
theorem Ge.nil:Ge it m X a []:=⟨rfl,fun n hn=>by simp [Mq,Ha] at hn,Nat.le_refl _⟩
theorem Ps (x:Aq×Nat):Mq it (pre++[x])=G6 it (Mq it pre) x.1:=by
 unfold Mq Ha
 rw [List.map_append,List.foldl_append]
 rfl
theorem Ge.here (h:Ge it m X a pre) {x:Aq×Nat} (hx:X[a+pre.length]? = some x.1):Ez it m [] a (X.drop a)=if Mj it m (Mq it pre) x.1=true then (Mq it pre,a+pre.length) else Ez it m (G6 it (Mq it pre) x.1) (a+pre.length+1) (X.drop (a+pre.length+1)):=by
 obtain ⟨hl,e⟩:=List.getElem?_eq_some_iff.1 hx
 rw [h.goes,List.drop_eq_getElem_cons hl,e,Ez]
theorem Ge.stop (h:Ge it m X a pre) {x:Aq×Nat} (hx:X[a+pre.length]? = some x.1) (hs:Mj it m (Mq it pre) x.1=true):Ez it m [] a (X.drop a)=(Mq it pre,a+pre.length):=by rw [h.here hx,if_pos hs]
theorem Ge.step (h:Ge it m X a pre) {x:Aq×Nat} (hx:X[a+pre.length]? = some x.1) (hf:Ag x.1=true) (hs:Mj it m (Mq it pre) x.1=false):Ge it m X a (pre++[x]):=by
 refine ⟨?_,?_,?_⟩
 ·rw [h.here hx,hs,if_neg (by decide),Ps,List.length_append,List.length_singleton,Nat.add_assoc]
 ·rw [Ps];exact Ad3 h.formed hf
 ·rw [Ps,List.length_append,List.length_singleton]
  have:=(A78 (it:=it) (most:=m) (Mq it pre) x.1).2.1
  have:=h.len
  omega
theorem Ge.done (h:Ge it m X a pre) (hl:X.length<=a+pre.length):Ez it m [] a (X.drop a)=(Mq it pre,a+pre.length):=by
 rw [h.goes,List.drop_of_length_le hl,Ez]
theorem A77 {out:List Aq} {z x:Aq} (hl:out.getLast? = some z) (hg:Lr it z x=true):G6 it out x=out.set (out.length - 1) (Kx z x)/\Mj it m out x=false:=by
 unfold G6 Mj
 rw [hl]
 simp only [hg,if_true,Bool.not_true,Bool.false_and,and_true]
 obtain ⟨d,rfl⟩ : ∃ d,out=d++[z]:=⟨out.dropLast,by
  have hne:out≠[]:=by rintro rfl;simp at hl
  rw [List.getLast?_eq_some_getLast hne] at hl
  rw [<-Option.some.inj hl,List.dropLast_concat_getLast hne]⟩
 simp
theorem Aj1 {out:List Aq} {z x:Aq} (hl:out.getLast? = some z) (hg:Lr it z x=false):G6 it out x=out++[x]/\Mj it m out x=decide ((out.length:Int)=m):=by
 unfold G6 Mj
 rw [hl]
 simp [hg]
theorem Zn {x:Aq} (hm:1<=m):G6 it [] x=[x]/\Mj it m [] x=false:=by
 unfold G6 Mj
 simp
 omega
end Go.Proofs.YthlgnjlpakimaaaGreatDoor
namespace Go.Proofs.YthlgnjlpakimaaaGreatDoor
open Go.ChangeShapes Go.WideShapes Go.ChangeAt Go.RowKit
attribute [local irreducible] AW AWY Cf Bf vop Bw Bh Bx qop Cg Cz Az Aw C5 A7 Bl
attribute [local go_sem] Lk Lm Kj Ce Ap Ar Vt
theorem Bl7 (x:Aq×Nat):(enL x).length=2/\Nb.pures (enL x)=true:=⟨rfl,rfl⟩
end Go.Proofs.YthlgnjlpakimaaaGreatDoor
namespace Go.Proofs.YthlgnjlpakimaaaGreatDoor
open Go.ChangeShapes Go.WideShapes Go.ChangeAt Go.RowKit
attribute [local irreducible] AW AWY Cf Bf vop Bw Bh Bx qop Cg Cz Az Aw C5 A7 Bl
attribute [local go_sem] Lk Lm Kj Ce Ap Ar Vt
def Sg (l:Log) (a:Int) (it:List Ad) (m:Int):AV:=.tup [.iv (noI (Mz l a it m).1),.val (.int .i64 (Mz l a it m).2.1),.val (.int .i64 (Mz l a it m).2.2)]
def bkB (o:List Aq) (next:Int):List BA:=[.box 1200 [.own 9900],.row 9900 37 4 (o.map enN),.box 1300 [.val (.int .i64 next)]]
set_option maxHeartbeats 3200000 in
set_option maxRecDepth 100000 in
theorem Ur (l:Log) (a:Int) (it:List Ad) (m:Int) (iS:I64 l.sure) (iA:I64 a) (iM:I64 m):A7 Tryz.prog A9 42 [Ug l,.val (.int .i64 a),.iv (spI it),.val (.int .i64 m)] (Sg l a it m) []:=by
 refine A7.ofS (n:=80) (rs:=[.tmp 8,.tmp 9,.tmp 10]) Tryz.func42 rfl (by kernel_rfl) Tryz.ntmps42 (by kernel_rfl) (by simp) (fun _ _=>A9.later) ?_
 intro hok V w0
 have hlen:l.notes.length<=1073741824:=by simpa using hok.1.2.1.1
 obtain ⟨⟨O,k,e⟩,hq⟩ : ∃ q,Mz l a it m=q:=⟨_,rfl⟩
 unfold Sg
 rw [hq]
 unfold Mz Bn3 at hq
 refine g ?_
 refine AW.seq ?_
 refine AW.reg rfl fun KK hKK=>?_
 refine g ?_
 repeat' (refine hKK _ (g ?_);clear hKK KK)
 refine AW.freeze 500 _ rfl ⟨trivial,trivial,iS,trivial⟩ ?_
 simp only [go_sem,reduceIte,Nat.reduceEqDiff]
 refine AW.freeze 700 _ rfl ⟨trivial,trivial⟩ ?_
 simp only [go_sem,reduceIte,Nat.reduceEqDiff]
 refine AW.freeze 800 _ rfl ⟨iM,trivial⟩ ?_
 simp only [go_sem,reduceIte,Nat.reduceEqDiff]
 refine g ?_
 repeat' refine st_ rfl (g ?_)
 refine Ab (Qu l iS) rfl ?_
 cases hF:C0 l
 ·rw [if_neg (by simp [hF])] at hq
  cases hq
  refine g ?_
  repeat' refine st_ rfl (g ?_)
  first | exact ⟨.inl trivial,id,Fu,List.nodup_nil⟩ | exact Fu
 refine g ?_
 by_cases h0:a < 0
 ·rw [if_neg fun h=>by simp only [Bool.and_eq_true,decide_eq_true_eq] at h;omega] at hq
  cases hq
  simp only [decide_eq_true h0]
  refine g ?_
  repeat' refine st_ rfl (g ?_)
  first | exact ⟨.inl trivial,id,Fu,List.nodup_nil⟩ | exact Fu
 simp only [decide_eq_false h0]
 refine g ?_
 by_cases h1:l.sure < a
 ·rw [if_neg fun h=>by simp only [Bool.and_eq_true,decide_eq_true_eq] at h;omega] at hq
  cases hq
  simp only [decide_eq_true h1]
  refine g ?_
  repeat' refine st_ rfl (g ?_)
  first | exact ⟨.inl trivial,id,Fu,List.nodup_nil⟩ | exact Fu
 simp only [decide_eq_false h1]
 refine g ?_
 repeat' (first | refine st_ rfl (g ?_) | refine C9 (fun h=>g ?_) (fun h=>g ?_))
 ·have h2:m < 1:=of_decide_eq_true h
  rw [if_neg fun h=>by simp only [Bool.and_eq_true,decide_eq_true_eq] at h;omega] at hq
  cases hq
  first | exact ⟨.inl trivial,id,Fu,List.nodup_nil⟩ | exact Fu
 have h2:¬ m < 1:=by simpa using h
 rw [if_pos (by simp [hF];omega)] at hq
 obtain ⟨a,rfl⟩ : ∃ n:Nat,a=n:=⟨a.toNat,by omega⟩
 unfold N0 at hq
 simp only [Int.toNat_natCast] at hq
 refine Ab (B82 l a it iS iA) rfl ?_
 refine g ?_
 repeat' refine st_ rfl (g ?_)
 refine AW.adoptB 1200 9900 37 4 rfl rfl ?_
 refine AW.le (S:=⟨[(11,.bp 1200 0),(12,.bp 1300 0),(1,.val (.int .i64 (a:Nat))),(4,Yu l),(6,.ip [spI it]),(7,.ip [.val (.int .i64 m)]),(38,.fn 171 [Yu l,.ip [.val (.int .i64 (a:Nat))],.ip [spI it]])],bkB [] l.sure⟩) (ρ:=id) ⟨⟨rfl,rfl,rfl,rfl,rfl,rfl,rfl,trivial⟩,⟨rfl,rfl,rfl,trivial⟩,by simp [Au,bkB,BA.id]⟩ ?_
 have hX:(Fg l it).length=l.sure.toNat:=by
  have:=(H8 hF).2
  unfold Fg
  rw [List.length_map,List.length_take];omega
 refine AW.range (B81 l a it iS iA hF) [(11,.bp 1200 0),(12,.bp 1300 0)] [(1,.val (.int .i64 (a:Nat))),(4,Yu l),(6,.ip [spI it]),(7,.ip [.val (.int .i64 m)]),(38,.fn 171 [Yu l,.ip [.val (.int .i64 (a:Nat))],.ip [spI it]])] (fun pre=>bkB (Mq it pre) l.sure) (fun pre=>Ge it m (Fg l it) a pre/\pre.length<=l.notes.length) rfl ⟨Ge.nil,Nat.zero_le _⟩ rfl rfl rfl rfl Bl7 (fun c pre x hsp hI=>?_) (fun xs hS hI=>?_)
 ·obtain ⟨hp1,hp2,hp3⟩:=Am4 hsp
  obtain ⟨n,i⟩:=x
  simp only at hp2 hp3
  obtain ⟨hI,hpl⟩:=hI
  have hol:=hI.len
  obtain ⟨o,ho⟩ : ∃ o,Mq it pre=o:=⟨_,rfl⟩
  have hos:Mq it (pre++[(n,i)])=G6 it o n:=by rw [Ps,ho]
  rw [ho] at hol
  have hfn:Ag n=true:=by
   have hm:=List.mem_of_getElem? hp3
   unfold Fg at hm
   obtain ⟨y,hy,rfl⟩:=List.mem_map.1 hm
   exact K5 it (Nw hF y (List.mem_of_mem_take hy))
  have hpl2:(pre++[(n,i)]).length<=l.notes.length:=by
   have:=(List.getElem?_eq_some_iff.1 hp3).1
   have:=(H8 hF).2
   rw [List.length_append,List.length_singleton]
   omega
  have hpl3:pre.length+1<=l.notes.length:=by simpa using hpl2
  simp only [T9,enL,List.cons_append,List.nil_append,ho,hos,bkB]
  refine g ?_
  refine g ?_
  repeat' refine st_ rfl (g ?_)
  rcases List.eq_nil_or_concat o with rfl | ⟨d,z,rfl⟩
  ·obtain ⟨g1,g2⟩:=Zn (it:=it) (m:=m) (x:=n) (by omega)
   rw [g1]
   refine AW.drawn (ds:=[45,46,47,48,49,50,51,52,53,54,55,44]) (fin:=[0,1,2,3]) (bs:=[4,4,4,4,4,4,4,4,4,4,4,4]) [⟨[],[],[],[],0⟩,⟨[(45,0)],[],[],[],0⟩,⟨[(46,1)],[],[],[],0⟩,⟨[],[],[0,1,2,3],[],0⟩,⟨[],[],[],[],0⟩,⟨[(48,3),(49,4)],[],[0,1,2,3],[],0⟩,⟨[(50,5)],[],[0,1,2,3],[],0⟩,⟨[],[],[0,1,2,3],[],0⟩,⟨[],[],[0,1,2,3],[],0⟩,⟨[(51,6),(52,7),(53,8)],[],[0,1,2,3],[],0⟩,⟨[(47,2),(54,9)],[],[],[],0⟩,⟨[(55,10)],[],[],[],0⟩] (by kernel_rfl) rfl (by kernel_rfl) rfl rfl rfl fun KD hKD=>?_
   refine g ?_
   repeat' (refine hKD _ _ ⟨rfl,g ?_⟩;clear hKD KD)
   refine g ?_
   repeat' (first | refine st_ rfl (g ?_) | refine C9 (fun h=>g ?_) (fun h=>g ?_))
   ·exfalso
    have:=of_decide_eq_true h
    try simp at this
    omega
   refine bs1 (by omega) rfl rfl rfl ⟨trivial,trivial,trivial,trivial,trivial⟩ ?_
   refine g ?_
   refine C4 rfl (by kernel_rfl) (by omega) (by kernel_rfl) rfl (by first | (simp;done) | (simp at hol ⊢;omega)) ?_
   refine g ?_
   refine ⟨⟨hI.step hp3 hfn (by rw [ho];exact g2),hpl2⟩,fun b=>if b=9900 then 7800 else b,⟨rfl,rfl,trivial⟩,⟨rfl,rfl,rfl,trivial⟩,by simp [Au,BA.id]⟩
  ·rw [List.concat_eq_append] at *
   have hlast:(((d++[z]).length:Nat):Int) - 1=(d.length:Nat):=by simp
   have hgl:(d++[z]).getLast? = some z:=by simp
   have hfz:Ag z=true:=hI.formed z (by rw [ho];simp)
   have hix:(d++[z])[d.length]? = some z:=by simp
   simp only [hlast]
   refine AW.drawn (ds:=[45,46,47,48,49,50,51,52,53,54,55,44]) (fin:=[0,1,2,3]) (bs:=[4,4,4,4,4,4,4,4,4,4,4,4]) [⟨[],[],[],[],0⟩,⟨[(45,0)],[],[],[],0⟩,⟨[(46,1)],[],[],[],0⟩,⟨[],[],[0,1,2,3],[],0⟩,⟨[],[],[],[],0⟩,⟨[(48,3),(49,4)],[],[0,1,2,3],[],0⟩,⟨[(50,5)],[],[0,1,2,3],[],0⟩,⟨[],[],[0,1,2,3],[],0⟩,⟨[],[],[0,1,2,3],[],0⟩,⟨[(51,6),(52,7),(53,8)],[],[0,1,2,3],[],0⟩,⟨[(47,2),(54,9)],[],[],[],0⟩,⟨[(55,10)],[],[],[],0⟩] (by kernel_rfl) rfl (by kernel_rfl) rfl rfl rfl fun KD hKD=>?_
   refine g ?_
   refine ⟨by omega,by simp,?_⟩
   refine g ?_
   repeat' refine Am (g ?_)
   refine ⟨_,Cb hix,?_⟩
   refine g ?_
   repeat' refine Am (g ?_)
   refine Ab (Bb5 z n it) rfl ?_
   cases hg:Lr it z n
   ·obtain ⟨g1,g2⟩:=Aj1 (m:=m) hgl hg
    refine g ?_
    repeat' (refine hKD _ _ ⟨rfl,g ?_⟩;clear hKD KD)
    refine g ?_
    repeat' (first | refine st_ rfl (g ?_) | refine C9 (fun h=>g ?_) (fun h=>g ?_))
    ·refine ⟨id,bkB (d++[z]) (i:Nat),⟨⟨rfl,rfl,trivial⟩,⟨rfl,rfl,rfl,trivial⟩,by simp [Au,bkB,BA.id]⟩,?_⟩
     rw [hI.stop (x:=(n,i)) hp3 (by rw [ho,g2];exact h),ho,<-hp2] at hq
     cases hq
     unfold bkB
     simp only [go_sem,List.cons_append,List.nil_append,reduceIte,Nat.reduceEqDiff]
     refine AW.freeze 9900 _ rfl trivial ?_
     simp only [go_sem,reduceIte,Nat.reduceEqDiff]
     refine g ?_
     repeat' refine st_ rfl (g ?_)
     refine AW.drawn (ds:=[78,79,8,9,10]) (fin:=[0,1]) (bs:=[2,2,2,2,2]) [⟨[],[],[0,1],[],0⟩,⟨[],[],[0,1],[],0⟩,⟨[(78,0)],[],[],[],0⟩,⟨[(79,1)],[],[],[],0⟩,⟨[],[],[],[],0⟩] (by kernel_rfl) rfl (by kernel_rfl) rfl rfl rfl fun KD hKD=>?_
     refine g ?_
     repeat' (first | refine st_ rfl (g ?_) | (refine hKD _ _ ⟨rfl,g ?_⟩;clear hKD KD))
     first | exact ⟨.inl trivial,id,fun _ _ _ h=>h,List.nodup_nil⟩ | exact fun _ _ _ h=>h
    ·refine bs1 (by omega) rfl rfl rfl ⟨trivial,trivial,trivial,trivial,trivial⟩ ?_
     refine g ?_
     refine C4 rfl (by kernel_rfl) (by omega) (by kernel_rfl) rfl (by first | (simp;done) | (simp at hol ⊢;omega)) ?_
     refine g ?_
     refine ⟨⟨hI.step hp3 hfn (by rw [ho,g2];exact h),hpl2⟩,fun b=>if b=9900 then 7800 else b,⟨rfl,rfl,trivial⟩,⟨rfl,?_,rfl,trivial⟩,by simp [Au,BA.id]⟩
     rw [g1,List.map_append]
     rfl
   ·obtain ⟨g1,g2⟩:=A77 (m:=m) hgl hg
    obtain ⟨⟨⟨w1,w2⟩,w3⟩,-⟩ : ((z.writes=[]/\n.writes=[])/\z.end_=n.start)/\_:=by
     have:=hg
     unfold Lr at this
     simpa only [Bool.and_eq_true,decide_eq_true_eq] using this
    refine g ?_
    repeat' (refine hKD _ _ ⟨rfl,g ?_⟩;clear hKD KD)
    refine g ?_
    repeat' refine st_ rfl (g ?_)
    refine AW.drawn (ds:=[57,58,59,60,61,62,63,64,56,65,66,67]) (fin:=[0,1,3,4]) (bs:=[4,4,4,4,4,4,4,4,4,4,4,4,4]) [⟨[],[],[0,1,2,3],[],0⟩,⟨[],[],[],[],0⟩,⟨[],[],[0,1,2,3],[],0⟩,⟨[],[],[],[],0⟩,⟨[(59,2),(60,3)],[],[0,1,2,3],[],0⟩,⟨[(61,4)],[],[0,1,2,3],[],0⟩,⟨[],[],[0,1,2,3],[],0⟩,⟨[(62,5),(63,6)],[],[0,1,2,3],[],0⟩,⟨[(64,7)],[],[],[],0⟩,⟨[(56,8)],[],[],[],0⟩,⟨[(56,8)],[],[],[],0⟩,⟨[(57,0),(58,1)],[],[0,1,2,3],[],0⟩,⟨[(67,11),(65,9)],[],[],[2],1⟩] (by kernel_rfl) rfl (by kernel_rfl) rfl rfl rfl fun KD hKD=>?_
    refine g ?_
    refine ⟨by omega,by simp,?_⟩
    refine g ?_
    repeat' refine Am (g ?_)
    refine ⟨_,Cb hix,?_⟩
    refine g ?_
    repeat' refine Am (g ?_)
    refine Ab (Ay7 z n hfz hfn w1 w2 w3) rfl ?_
    refine g ?_
    refine ⟨by omega,by simp,?_⟩
    refine g ?_
    repeat' refine Am (g ?_)
    refine ⟨_,_,rfl,by simp [Gj,okA],Cb hix,?_⟩
    refine g ?_
    repeat' (first | refine Am (g ?_) | (refine hKD _ _ ⟨rfl,g ?_⟩;clear hKD KD))
    refine g ?_
    repeat' refine st_ rfl (g ?_)
    refine ⟨⟨hI.step hp3 hfn (by rw [ho];exact g2),hpl2⟩,id,⟨rfl,rfl,trivial⟩,⟨rfl,?_,rfl,trivial⟩,by simp [Au,BA.id]⟩
    rw [g1,List.map_set,List.length_append,List.length_singleton,Nat.add_sub_cancel]
    rfl
 ·obtain rfl:xs=Tg l a it:=hS
  have hdone:=hI.1.done (by unfold Tg Si;rw [List.length_zipIdx,List.length_drop];omega)
  rw [hdone] at hq
  have hk:a+(Tg l a it).length=l.sure.toNat:=by
   unfold Tg Si;rw [List.length_zipIdx,List.length_drop];omega
  rw [hk] at hq
  have hs0:=(H8 hF).1
  rw [show ((l.sure.toNat:Nat):Int)=l.sure by omega] at hq
  generalize Mq it (Tg l a it)=o at hq ⊢
  cases hq
  unfold bkB
  simp only [go_sem,List.cons_append,List.nil_append,reduceIte,Nat.reduceEqDiff]
  refine AW.freeze 9900 _ rfl trivial ?_
  simp only [go_sem,reduceIte,Nat.reduceEqDiff]
  refine g ?_
  repeat' refine st_ rfl (g ?_)
  refine AW.drawn (ds:=[78,79,8,9,10]) (fin:=[0,1]) (bs:=[2,2,2,2,2]) [⟨[],[],[0,1],[],0⟩,⟨[],[],[0,1],[],0⟩,⟨[(78,0)],[],[],[],0⟩,⟨[(79,1)],[],[],[],0⟩,⟨[],[],[],[],0⟩] (by kernel_rfl) rfl (by kernel_rfl) rfl rfl rfl fun KD hKD=>?_
  refine g ?_
  repeat' (first | refine st_ rfl (g ?_) | (refine hKD _ _ ⟨rfl,g ?_⟩;clear hKD KD))
  first | exact ⟨.inl trivial,id,fun _ _ _ h=>h,List.nodup_nil⟩ | exact fun _ _ _ h=>h
end Go.Proofs.YthlgnjlpakimaaaGreatDoor
