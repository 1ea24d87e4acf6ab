/-
  The law, run with numbers that are not known.
-/
import Derived.Test.YtojhgdpmbpgdgaaGreatDoorEnts
namespace Go.Proofs.YtojhgdpmbpgdgaaGreatDoor
open Go Go.Ri
noncomputable def hz : AH := memOf [(4, .row row4), (6, .row row6), (7, .row row7), (11, .rowU ns11)] 100
def isRow (o : Option AObj) : Bool := match o with
  | some (.row _) => true
  | some (.rowU _) => true
  | _ => false
/-- The law's run: does it answer true, and are the rows there still? -/
noncomputable def law (C : Cfg) (r : Int) (off : Bool) : Option Bool := runCall C Tryz.prog 400 3 #[.int .i64 (big + 1005 + r), .int .i64 (big + 1), .bool off] hz fun v h => match v with
  | .bool b => match isRow (h.get 4), isRow (h.get 6), isRow (h.get 7), isRow (h.get 11) with
    | true, true, true, true => some b
    | _, _, _, _ => none
  | _ => none
end Go.Proofs.YtojhgdpmbpgdgaaGreatDoor
