/- The walk of counts: segments of so many records. -/
import Derived.Test.YtpfladolkkhfdaaSegApp
import Derived.Deep.RegionLaw
namespace Go.Proofs.Ytpfladolkkhfdaa
set_option linter.unusedVariables false
open Go.RowKit

/-- The first k segments of counts. -/
def mkTo (l : List Int64) : Nat → List Sg
  | 0 => []
  | k + 1 => mkTo l k ++ (match l[k]? with | some x => [⟨Int64.ofInt (k + 1), x, 0, x⟩] | none => [])
theorem i64_of (k : Nat) (h : k ≤ 1000) : (Int64.ofInt ((k : Int) + 1)).toInt = (k : Int) + 1 := Int64.toInt_ofInt_of_le (by omega) (by omega)
theorem segCells_append (a b : List Sg) : segCells (a ++ b) = segCells a ++ segCells b := by simp [segCells]

set_option maxHeartbeats 4000000 in
set_option maxRecDepth 100000 in
theorem counts_any (l : List Int64) (A : Option Addr) (c : Nat) (w : World) (B : Nat) (hB : B ≤ w.heap.size) (hr : Reads w B A (l.map vi)) (hl : l.length ≤ 100) :
    Calls Try.prog 31 #[.slice A l.length c] w fun e w' => ∃ v, e = .returned v ∧ w'.ownsRow w.heap.size 44 4 v l.length (segCells (mkTo l l.length)) ∧ Below w.heap.size w w' := by
  go_enter Try.func31, Try.ntmps31
  go_wp2
  go_loopw [3, 4] (fun v i wr => ∃ k : Nat, k ≤ l.length ∧ i = .int .i64 k ∧ wr.ownsRow w.heap.size 44 4 v k (segCells (mkTo l k)) ∧ Below w.heap.size w wr) (fun _ i _ => l.length - (intOf i).toNat)
  case atStart => exact ⟨0, Nat.zero_le _, rfl, World.ownsRow_nil _ _ _ _, Below.refl _ _⟩
  case round =>
    obtain ⟨k, hk, rfl, hown, hbr⟩ := hrel
    have hsr := hbr.size
    rcases Nat.lt_or_ge k l.length with hlt | hge
    · obtain ⟨b, off, rfl, _, hc⟩ := (hr.below (hbr.mono hB)).at_ (k := k) (by simpa using hlt)
      have d1 : wr.cell? ⟨b, off + k, none⟩ = some (vi l[k]) := hc k _ (by simp [hlt])
      have HT : Hid (mkTo l (k + 1) = mkTo l k ++ [⟨Int64.ofInt (k + 1), l[k], 0, l[k]⟩]) := Lib.hid (by simp [mkTo, hlt])
      clear hc
      generalize l[k] = x at d1 HT
      have hid := i64_of k (by omega)
      have HO := Lib.hid hown
      have HID := Lib.hid hid
      have HR := Lib.hid hr
      clear hid hown hr
      have b1 : (0 : Int) ≤ (k : Int) := by omega
      have b2 : (k : Int) < (l.length : Int) := by omega
      have b3 : IntKind.i64.wrap ((k : Int) + 1) = (k : Int) + 1 := IntWalk.i64_in _ (by omega)
      go_wp2_with fail
      go_region_law (refine step_appSeg rfl (.tmp 11) (.tmp 23) rfl (.int .i64 (k + 1)) (vi x) (.int .i64 0) (vi x) (by simp [Value.oneCell']) _ (w := wr.drew) rfl w.heap.size _ _ _ rfl (by exact HO.out) wr.heap.size rfl rfl (by omega) hsr ?_; intro v2 w2 hown2 hg2)
      all_goals
        have hb2 : Below w.heap.size w w2 := hbr.drew.grown hg2.by_ hsr (fun r hr => (HO.out.lt r hr).1)
        have hown3 : w2.ownsRow w.heap.size 44 4 v2 (k + 1) (segCells (mkTo l (k + 1))) := by
          rw [HT.out, segCells_append]
          have e : segCells [(⟨Int64.ofInt (k + 1), x, 0, x⟩ : Sg)] = [.int .i64 (k + 1), vi x, .int .i64 0, vi x] := by simp only [segCells, List.flatMap_cons, List.flatMap_nil, List.append_nil, Sg.cells, vi, HID.out]; rfl
          rw [e]
          exact hown2
        clear hown2 hg2
        go_wp2_with fail
        go_roundw
        case rel => exact ⟨k + 1, by omega, by go_num, hown3, hb2⟩
        case measure => simp [intOf]; omega
    · obtain rfl : k = l.length := by omega
      go_wp2_with fail
      go_ret
      exact ⟨_, rfl, hown, hbr⟩
end Go.Proofs.Ytpfladolkkhfdaa
