/- Subscriptions and messages over abstract states: tests, one's own copies; the elder contracts told so. -/
import Derived.Test.YtaiekfeiaamemaaGreatDoorPSinceSame
import Derived.Test.YtaiekfeiaamemaaGreatDoorPCacheForm
import Derived.Test.YtaiekfeiaamemaaGreatDoorPMsg
import Derived.Test.YtaiekfeiaamemaaGreatDoorPRefThr
import Derived.Test.YtaiekfeiaamemaaGreatDoorPMarks
import Derived.Test.YtaiekfeiaamemaaGreatDoorPPieces
set_option linter.all false
set_option linter.unnecessarySimpa false
set_option linter.unusedSimpArgs false
set_option linter.unusedVariables false
namespace Go.Proofs.YtaiekfeiaamemaaGreatDoor
open Go.ChangeShapes Go.WideShapes Go.ChangeAt Go.RowKit
attribute [local irreducible] AW AWY vops vopsY vop vopL vdraw callW qop binQ lenQ storeQ appendQ callQ ACalls AIter setI
attribute [local go_sem] vwA_eq storeQ_bp storeQ_rp
def sinceVT (v : View) (it : List Span) : List Stamp := if viewFormed v = true then sinceT v.zones v.known it else []
end Go.Proofs.YtaiekfeiaamemaaGreatDoor
namespace Go.Proofs.YtaiekfeiaamemaaGreatDoor
open Go.ChangeShapes Go.WideShapes Go.ChangeAt Go.RowKit
def numB (n : Int) : Bool := decide (0 ≤ n ∧ n < 1099511627776)
def nodeB (n : Int) : Bool := decide (0 ≤ n ∧ n < 64)
def wantB (l : List Span) : Bool := decide (0 < l.length) && spanFormed l
def nextN (n : Int) : Int := (n + 1) % 1099511627776
attribute [local irreducible] AW AWY vops vopsY vop vopL vdraw callW qop binQ lenQ storeQ appendQ callQ ACalls AIter setI
attribute [local go_sem] storeQ_bp storeQ_rp
def enSub (s : Sub) : List IV := [.val (.int .i64 s.from_), spI s.interest, .val (.int .i64 s.session), .val (.int .i64 s.seq), .val (.bool s.live), .val (.bool s.heard), .val (.bool s.idle)]
def subI (l : List Sub) : IV := .sl 7 (l.map enSub)
theorem enSub_eq (s : Sub) : enSub s = [.val (.int .i64 s.from_), spI s.interest, .val (.int .i64 s.session), .val (.int .i64 s.seq), .val (.bool s.live), .val (.bool s.heard), .val (.bool s.idle)] := rfl
theorem subI_eq (l : List Sub) : subI l = .sl 7 (l.map enSub) := rfl
attribute [local go_sem] enSub_eq subI_eq
end Go.Proofs.YtaiekfeiaamemaaGreatDoor
namespace Go.Proofs.YtaiekfeiaamemaaGreatDoor
open Go.ChangeShapes Go.WideShapes Go.ChangeAt Go.RowKit
attribute [local irreducible] AW AWY vops vopsY vop vopL vdraw callW qop binQ lenQ storeQ appendQ callQ ACalls AIter setI
attribute [local go_sem] enSub_eq subI_eq storeQ_bp storeQ_rp
end Go.Proofs.YtaiekfeiaamemaaGreatDoor
namespace Go.Proofs.YtaiekfeiaamemaaGreatDoor
open Go.ChangeShapes Go.WideShapes Go.ChangeAt Go.RowKit
def subsFrom : Int → List Sub → Bool
 | _, [] => true
 | e, s :: l => (decide (e < s.from_) && (nodeB s.from_ && wantB s.interest) && numB s.session && numB s.seq) && subsFrom s.from_ l
def subsFormed (l : List Sub) : Bool := subsFrom (-1) l && decide (l.length ≤ 16)
abbrev OwnSubs := OwnN (fun w => SubR w w.heap.size) 7
attribute [local irreducible] AW AWY vops vopsY vop vopL vdraw callW qop binQ lenQ storeQ appendQ callQ ACalls AIter cntI
attribute [local go_sem] storeQ_bp storeQ_rp
def onBits (f : Nat → Int) (M n : Nat) : Int := if M.testBit n = true then f n else 0
end Go.Proofs.YtaiekfeiaamemaaGreatDoor
namespace Go.Proofs.YtaiekfeiaamemaaGreatDoor
open Go.ChangeShapes Go.WideShapes Go.ChangeAt Go.RowKit
attribute [local irreducible] vops vopsY vop vopL vdraw callW qop binQ lenQ storeQ appendQ callQ ACalls AIter
attribute [local go_sem] storeQ_bp storeQ_rp
section
variable {V w0 : World} {n : Nd} {ro : Option Nat} {σ : AState} {K : Exit → AState → Prop}
end
def enX (x : Fin 64) : List AV := [.val (.int .i64 (x.1 : Nat)), .any]
attribute [local irreducible] cntI AW
section
variable {V w0 : World} {n : Nd} {K : Exit → AState → Prop}
end
def mixMin (f d : Nat → Int) (pre : List (Fin 64)) (n : Nat) : Int := if pre.any (fun x => decide (x.1 = n)) = true then min (f n) (d n) else f n
structure MeetS (ls : List (List Stamp)) where
 i : Nat
 f : Nat → Int
 M : Nat
 h0 : 0 < i
 hi : i ≤ ls.length
 hM : M < 18446744073709551616
 hf : ∀ n, n < 64 → I64 (f n)
 pos : ∀ n, n < 64 → M.testBit n = true → 0 < f n
 is : ∀ n, n < 64 → onBits f M n = meetC (ls.take i) n
end Go.Proofs.YtaiekfeiaamemaaGreatDoor
namespace Go.Proofs.YtaiekfeiaamemaaGreatDoor
open Go.ChangeShapes Go.WideShapes Go.ChangeAt Go.RowKit
attribute [local irreducible] AW AWY vops vopsY vop vopL vdraw callW qop binQ lenQ storeQ appendQ callQ ACalls AIter setI
def enMsg (m : Msg) : List IV := [.val (.int .i64 m.kind), .val (.int .i64 m.from_), .val (.int .i64 m.to_), .val (.int .i64 m.session), .val (.int .i64 m.seq), spI m.interest, stI m.vector, noI m.notes, .val (.int .i64 m.body.object), .val (.int .i64 m.body.stamp.count), .val (.int .i64 m.body.stamp.node), byI m.body.value]
def msI (l : List Msg) : IV := .sl 12 (l.map enMsg)
def msA (m : Msg) : AV := .agg [.val (.int .i64 m.kind), .val (.int .i64 m.from_), .val (.int .i64 m.to_), .val (.int .i64 m.session), .val (.int .i64 m.seq), .iv (spI m.interest), .iv (stI m.vector), .iv (noI m.notes), .val (.int .i64 m.body.object), .val (.int .i64 m.body.stamp.count), .val (.int .i64 m.body.stamp.node), .iv (byI m.body.value)]
theorem enMsg_eq (m : Msg) : enMsg m = [.val (.int .i64 m.kind), .val (.int .i64 m.from_), .val (.int .i64 m.to_), .val (.int .i64 m.session), .val (.int .i64 m.seq), spI m.interest, stI m.vector, noI m.notes, .val (.int .i64 m.body.object), .val (.int .i64 m.body.stamp.count), .val (.int .i64 m.body.stamp.node), byI m.body.value] := rfl
theorem msI_eq (l : List Msg) : msI l = .sl 12 (l.map enMsg) := rfl
theorem msA_eq (m : Msg) : msA m = .agg [.val (.int .i64 m.kind), .val (.int .i64 m.from_), .val (.int .i64 m.to_), .val (.int .i64 m.session), .val (.int .i64 m.seq), .iv (spI m.interest), .iv (stI m.vector), .iv (noI m.notes), .val (.int .i64 m.body.object), .val (.int .i64 m.body.stamp.count), .val (.int .i64 m.body.stamp.node), .iv (byI m.body.value)] := rfl
def dueB (bl : List Span) (s : Sub) : Bool := !(s.heard && !(s.live && s.idle && touchS s.interest bl))
def renewSub (s : Sub) (t : Int) : Sub := ⟨s.from_, s.interest, t, 0, false, true, false⟩
def renewMsg (me : Int) (s : Sub) (t : Int) (v : List Stamp) : Msg := ⟨1, me, s.from_, t, 0, s.interest, v, [], ⟨0, ⟨0, 0⟩, []⟩⟩
structure RenewA where
 done : List Sub
 msgs : List Msg
 tries : Int
def renewStep (bl : List Span) (me : Int) (sn : List Span → List Stamp) (a : RenewA) (s : Sub) : RenewA :=
 if dueB bl s = true then ⟨a.done ++ [renewSub s (nextN a.tries)], a.msgs ++ [renewMsg me s (nextN a.tries) (sn s.interest)], nextN a.tries⟩ else ⟨a.done ++ [{ s with heard := false }], a.msgs, a.tries⟩
def renewAll (bl : List Span) (me : Int) (sn : List Span → List Stamp) (l : List Sub) (t : Int) : RenewA := l.foldl (renewStep bl me sn) ⟨[], [], t⟩
def renewS (l : List Sub) (me tries : Int) (v : View) : RenewA × Int := if (subsFormed l && nodeB me && numB tries && viewFormed v) = true then (renewAll (blurredS v.zones) me (sinceV v) l tries, 0) else (⟨[], [], 0⟩, 1)
end Go.Proofs.YtaiekfeiaamemaaGreatDoor
