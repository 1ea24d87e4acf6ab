/-
  The functions that are told at every run; the rows that are read.
-/
import Derived.Test.YtojhgdpmbpgdgaaGreatDoorCfg
import Derived.Test.YtojhgdpmbpgdgaaGreatDoorRi8
import GoSem.PinnedTables
namespace Go.Proofs.YtojhgdpmbpgdgaaGreatDoor
open Go Go.Ri

noncomputable def own0 (f : FuncId) : Option Ri.Told := match f with
  | 23 => some toldJoin
  | 76 => some (toldKeys 124 9)
  | _ => none
noncomputable def C0 : Cfg := { odd := odd0, own := own0 }

def row4 : List Value := [.bool true]
def row6 : List Value := [.int .u64 52, .int .u64 11, .int .i64 (-1023)]
def row7 : List Value := [.int .u64 1, .int .u64 10, .int .u64 100, .int .u64 1000, .int .u64 10000, .int .u64 100000, .int .u64 1000000, .int .u64 10000000, .int .u64 100000000, .int .u64 1000000000, .int .u64 10000000000, .int .u64 100000000000, .int .u64 1000000000000, .int .u64 10000000000000, .int .u64 100000000000000, .int .u64 1000000000000000, .int .u64 10000000000000000, .int .u64 100000000000000000, .int .u64 1000000000000000000, .int .u64 10000000000000000000]
def ns11 : List Nat := Go.Pinned.pow10Rows.flatMap fun x => [x.1, x.2]
end Go.Proofs.YtojhgdpmbpgdgaaGreatDoor
