/- BloomHas: the walk of the law. -/
import Derived.Test.YtpfladolkkhfdaaBHasS
import Derived.Test.YtpfladolkkhfdaaBHasN
namespace Go.Proofs.Ytpfladolkkhfdaa
set_option linter.unusedVariables false
open Go.RowKit
attribute [local go_sem ↓] Go.wp_at_zero Go.wp_at_succ

theorem bloomHas_any (ws : List ByteArray) (turn : Int) (more : List UInt8) (A A' : Option Addr) (c c' : Nat) (w : World) (hr : Reads w w.heap.size A (ws.map vs)) (hr' : Reads w w.heap.size A' (more.map vb)) (hl : ws.length ≤ 1048576) (hc : ws.length ≤ c) (hc2 : c ≤ 9223372036854775807) (hm : more.length ≤ 1000000000) (hs : ∀ s ∈ ws, s.size ≤ 9223372036854775807) (ht1 : -9223372036854775808 ≤ turn) (ht2 : turn ≤ 9223372036854775807) :
    Calls Try.prog 4 #[.slice A ws.length c, .int .i64 turn, .slice A' more.length c'] w fun e w' => e = .returned (.bool true) ∧ Below w.heap.size w w' := by
  rcases Nat.eq_zero_or_pos ws.length with h0 | h0
  · obtain rfl : ws = [] := List.eq_nil_of_length_eq_zero h0
    exact bloomHas_none turn more A A' c c' w hm hc2
  · obtain ⟨b, off, rfl, -⟩ := hr.at_ (k := 0) (by simpa using h0)
    exact bloomHas_some ws turn more b off A' c c' w hr hr' hl hc hc2 hm hs ht1 ht2
end Go.Proofs.Ytpfladolkkhfdaa
