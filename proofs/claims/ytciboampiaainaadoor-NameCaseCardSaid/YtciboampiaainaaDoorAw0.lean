/- What is laid in package-level variables that a seat's functions read: the decoder's two tables. -/
import Derived.WalkKit
import Derived.Shelf.Unicode.DecodeAny
namespace Go.AW
open Go
def gtab : Nat → Nat → Option Value
  | 0, c => if c < 256 then some (.int .u8 (Lib.firstT c)) else none
  | 1, i => if i < 32 then some (.int .u8 (if i % 2 = 0 then Lib.accLo (i / 2) else Lib.accHi (i / 2))) else none
  | _, _ => none
end Go.AW
