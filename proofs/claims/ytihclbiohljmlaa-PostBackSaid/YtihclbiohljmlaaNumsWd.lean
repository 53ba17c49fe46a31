/- Sums, differences and signs in plain words. -/
import Derived.Test.YtihclbiohljmlaaBits
namespace Go.Proofs.Ytihclbiohljmlaa
open Go.RowKit
set_option linter.unusedVariables false

def InI (x : Int) : Prop := -9223372036854775808 ≤ x ∧ x ≤ 9223372036854775807
instance (x : Int) : Decidable (InI x) := by unfold InI; exact inferInstance
def addS (a b : Int) : Option Int := if InI (a + b) then some (a + b) else none
def subS (a b : Int) : Option Int := if InI (a - b) then some (a - b) else none
def zigS (v : Int) : Int := if v < 0 then -2 * v - 1 else 2 * v
def zagS (u : Int) : Int := if u % 2 = 1 then -(u / 2) - 1 else u / 2
def optV (r : Option Int) : Value := .tuple #[.int .i64 (r.getD 0), .bool r.isSome]

theorem wrap_hi (x : Int) (h : 9223372036854775807 < x) (h2 : x ≤ 18446744073709551616) : wrap64 x = x - 18446744073709551616 := by unfold wrap64; omega
theorem wrap_lo (x : Int) (h : x < -9223372036854775808) (h2 : -18446744073709551616 ≤ x) : wrap64 x = x + 18446744073709551616 := by unfold wrap64; omega

end Go.Proofs.Ytihclbiohljmlaa
