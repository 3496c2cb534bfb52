/- PlanTiers: the walk of the law. -/
import Derived.Test.YtpfladolkkhfdaaPlanTiersLt
import Derived.Test.YtpfladolkkhfdaaPlanTiersGt
import Derived.Test.YtpfladolkkhfdaaPlanTiersEq
namespace Go.Proofs.Ytpfladolkkhfdaa
set_option linter.unusedVariables false
open Go.RowKit

theorem planTiers_any (n m : Int64) (l : List Sg) (A : Option Addr) (c : Nat) (p q : Int64) (w : World) (hr : Reads w w.heap.size A (segCells l)) (hl : l.length ≤ 7000000000000) :
    Calls Try.prog 9 #[.agg #[vi n, vi m], .slice A l.length c, .agg #[vi p, vi q]] w fun e w' => e = .returned (.bool true) ∧ Below w.heap.size w w' := by
  rcases Int.lt_trichotomy p.toInt q.toInt with h | h | h
  · exact planTiers_lt n m l A c p q w hr hl h
  · exact planTiers_eq n m l A c p q w hr hl h
  · exact planTiers_gt n m l A c p q w hr hl h
end Go.Proofs.Ytpfladolkkhfdaa
