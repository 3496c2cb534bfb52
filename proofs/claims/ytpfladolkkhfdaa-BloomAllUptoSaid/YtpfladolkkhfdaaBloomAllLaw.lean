/- BloomAll: the walk of the law. -/
import Derived.Test.YtpfladolkkhfdaaAwake12
import Derived.Test.YtpfladolkkhfdaaBloomB
import Derived.Deep.RegionWith
import Derived.Deep.DrawnRows
namespace Go.Proofs.Ytpfladolkkhfdaa
set_option linter.unusedVariables false
open Go.RowKit
attribute [local go_sem ↓] Go.wp_at_zero Go.wp_at_succ

set_option maxHeartbeats 20000000 in
set_option maxRecDepth 100000 in
theorem bloomAll_any (ws : List ByteArray) (f : List UInt8) (x : ByteArray) (A A' : Option Addr) (c c' : Nat) (w : World) (hr : Reads w w.heap.size A (ws.map vs)) (hr' : Reads w w.heap.size A' (f.map vb)) (hl : ws.length ≤ 1000000000) (hf : f.length ≤ 1000000000) (hs : ∀ s ∈ ws, s.size ≤ 9223372036854775807) (hx : x.size ≤ 9223372036854775807) :
    Calls Try.prog 3 #[.slice A ws.length c, .slice A' f.length c', .string x] w fun e w' => e = .returned (.bool true) ∧ Below w.heap.size w w' := by
  have HS := Lib.hid hs
  clear hs
  go_enter Try.func3, Try.ntmps3
  go_wp2_with fail
  refine (awake12_any _).mono ?_
  rintro e w1 ⟨rfl, hb1⟩
  have hs1 := hb1.size
  have hr1 := (hr.below hb1).more hs1
  go_wp2_with fail
  refine (make_any ws A c w1 hr1 hl HS.out).mono ?_
  rintro e w2 ⟨v, rfl, hown, hb2⟩
  have hs2 := hb2.size
  have hB2 := hb1.trans (hb2.mono hs1)
  have hr2 := ((hr1.below hb2).more hs2)
  have hrf2 := ((hr'.below hB2).more (Nat.le_trans hs1 hs2))
  obtain ⟨A1, c1, rfl, -⟩ := own_slice hown
  have hlen := make_le (bl ws) (by simpa [bl] using hl)
  have hR := Reads.of_own hown
  have HRM := refMake_any ws A c w2.drew hr2.drew hl HS.out
  generalize make (bl ws) = F at hown hlen hR HRM ⊢
  have e1 : (convert 23 9 (.slice A1 F.length c1)).run Try.prog w2.drew = .ok (.string ⟨F.toArray⟩) w2.drew := run_str (hR.drew) rfl
  have hrf3 := fun w' (hb : Below w2.drew.heap.size w2.drew w') => ((hrf2.drew.below hb).more hb.size)
  have hR3 := fun w' (hb : Below w2.drew.heap.size w2.drew w') => ((hR.drew.below hb).more hb.size)
  have q1 : (has f x.data.toList == has f x.data.toList) = true := by simp
  have q2 : (has F x.data.toList == has F x.data.toList) = true := by simp
  have q3 : ((hash x.data.toList : Int) == (hash x.data.toList : Int)) = true := by simp
  have HOWN := Lib.hid hown
  have HB2 := Lib.hid hB2
  have HF := Lib.hid hrf3
  have HR := Lib.hid hR3
  clear hown hr hr' hr1 hr2 hrf2 hb1 hb2 hB2 hrf3 hR3
  have hlen3 : F.length ≤ 1000000000000000 := by omega
  have hf3 : f.length ≤ 1000000000000000 := by omega
  clear hlen hl hf
  go_wp2_with fail
  go_region_with (first
    | (go_at_call 13; refine HRM.mono ?_; rintro e w3 ⟨v, rfl, hown3, hb3⟩; obtain ⟨A3, c3, rfl, -⟩ := own_slice hown3; have e2 := run_str (A := A1) (c := c1) (hR.below (w := w2.drew) hb3) rfl; have e3 := run_str (c := c3) (Reads.of_own hown3) rfl; clear hown3)
    | (go_at_call 16; refine (hash_any x w5 hx).mono ?_; rintro e w6 ⟨rfl, rfl⟩)
    | (go_at_call 17; refine (refHash_any x w5 hx).mono ?_; rintro e w6 ⟨rfl, rfl⟩)
    | (go_at_call 14; have hz := hb34; refine (has_any F A1 c1 x w4 (HR.out w4 hz) hlen3 hx).mono ?_; rintro e w5 ⟨rfl, hb5⟩; have hb35 := hz.trans (hb5.mono hz.size); clear hz)
    | (go_at_call 14; refine (has_any f A' c' x w3 (HF.out w3 hb3) hf3 hx).mono ?_; rintro e w4 ⟨rfl, hb4⟩; have hb34 := hb3.trans (hb4.mono hb3.size))
    | (go_at_call 15; have hz := hb35; refine (refHas_any F A1 c1 x w5 w5.heap.size (HR.out w5 hz) hlen3 hx).mono ?_; rintro e w6 ⟨rfl, rfl⟩; clear hz)
    | (go_at_call 15; refine (refHas_any f A' c' x w4 w4.heap.size (HF.out w4 hb34) hf3 hx).mono ?_; rintro e w5 ⟨rfl, rfl⟩))
  all_goals
    go_wp2_with fail
    go_ret
    exact ⟨rfl, HB2.out.drew.trans (hb35.mono (Nat.le_trans hs1 hs2))⟩
end Go.Proofs.Ytpfladolkkhfdaa
