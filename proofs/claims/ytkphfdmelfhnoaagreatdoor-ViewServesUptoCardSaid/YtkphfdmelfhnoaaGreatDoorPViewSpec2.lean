/- Caches and views: what they give and become. Plain definitions. No program is known here. -/
import Derived.Test.YtkphfdmelfhnoaaGreatDoorPPutLaw
set_option linter.all false
set_option linter.unnecessarySimpa false
set_option linter.unusedSimpArgs false
set_option linter.unusedVariables false
namespace Go.Proofs.YtkphfdmelfhnoaaGreatDoor
-- shelves
def withinL (l : List Write) (set : List Span) : List Write := l.filter fun w => spanHas set w.object
def withinS (l : List Write) (set : List Span) : List Write × Int := if shelfFormed l = true then (withinL l set, 0) else ([], 1)
-- caches
def isB (o : Int) (s : Stamp) (x : Body) : Bool := decide (x.object = o) && decide (x.stamp = s)
def getB (l : List Body) (o : Int) (s : Stamp) : List Nat × Int := match l.find? (isB o s) with
 | some x => (x.value, 0)
 | none => ([], 10)
def forgetB (l : List Body) (o : Int) : List Body := l.filter fun x => !decide (x.object = o)
def fitB (room : Int) : List Body → List Body
 | [] => []
 | x :: l => if (usedS (x :: l) : Int) ≤ room then x :: l else fitB room l
def putB (l : List Body) (room : Int) (x : Body) : List Body × Int := if cacheFormed l room = true ∧ rightBody x = true then (fitB room (forgetB l x.object ++ [x]), 0) else ([], 1)
-- views
def newS (room : Int) : View × Int := if roomB room = true then (⟨[], [], [], [], room⟩, 0) else (noView, 1)
def bodyV (v : View) (x : Body) : View × Int :=
 if viewFormed v = true ∧ rightBody x = true then
  (if wantedB v.held x = true then (⟨v.known, v.zones, v.held, fitB v.room (forgetB v.bodies x.object ++ [x]), v.room⟩, 0) else (noView, 13))
 else (noView, 1)
def readV (v : View) (o : Int) : List Nat × Write × Int :=
 if viewFormed v = true ∧ rightO o = true then
  (if spanHas (blurredS v.zones) o = true then ([], noW, 9) else
   match getW v.held o with
   | none => ([], noW, 8)
   | some w => if w.gone = true then ([], w, 0) else ((getB v.bodies o w.stamp).1, w, (getB v.bodies o w.stamp).2))
 else ([], noW, 1)
def noBody : Body := ⟨0, ⟨0, 0⟩, []⟩
def serveV (v : View) (o : Int) : Body × Int :=
 if viewFormed v = true ∧ rightO o = true then
  (match getW v.held o with
   | none => (noBody, 8)
   | some w => if w.gone = true then (noBody, 13) else (if (getB v.bodies o w.stamp).2 = 0 then (⟨o, w.stamp, (getB v.bodies o w.stamp).1⟩, 0) else (noBody, (getB v.bodies o w.stamp).2)))
 else (noBody, 1)
end Go.Proofs.YtkphfdmelfhnoaaGreatDoor
