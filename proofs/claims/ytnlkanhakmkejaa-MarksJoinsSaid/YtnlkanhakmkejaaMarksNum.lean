/-
  Small laws on numbers in walks.
-/
import Derived.Test.YtnlkanhakmkejaaBase
namespace Go.Proofs.Ytnlkanhakmkejaa
open Go.RowKit
/-- 'min(len(b), k)' as one number. -/
theorem min_run (x y : Int) (q : Nat) (h : (if y < x then y else x) = (q : Int)) : ∀ (ts : Array TypeId) (t : TypeId) (w : World), (Builtin.min_ ts t #[.int .i64 x, .int .i64 y]).run Try.prog w = .ok (.int .i64 (q : Int)) w := fun ts t w => by
  rw [run_min_int2, h]
end Go.Proofs.Ytnlkanhakmkejaa
