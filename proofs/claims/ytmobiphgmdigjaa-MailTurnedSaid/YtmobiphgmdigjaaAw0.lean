import Derived.WalkKit
/- What is laid in package-level variables that a seat's functions read: none. -/
namespace Go.AW
open Go
def gtab : Nat → Nat → Option Value := fun _ _ => none
end Go.AW
