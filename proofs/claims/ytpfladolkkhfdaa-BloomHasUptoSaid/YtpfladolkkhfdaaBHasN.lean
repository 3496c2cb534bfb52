/- BloomHas: the walk, no word. -/
import Derived.Test.YtpfladolkkhfdaaBHasP
namespace Go.Proofs.Ytpfladolkkhfdaa
set_option linter.unusedVariables false
open Go.RowKit
attribute [local go_sem ↓] Go.wp_at_zero Go.wp_at_succ

set_option maxHeartbeats 1000000 in
set_option maxRecDepth 100000 in
theorem bloomHas_none (turn : Int) (more : List UInt8) (A A' : Option Addr) (c c' : Nat) (w : World) (hm : more.length ≤ 1000000000) (hc2 : c ≤ 9223372036854775807) :
    Calls Try.prog 4 #[.slice A 0 c, .int .i64 turn, .slice A' more.length c'] w fun e w' => e = .returned (.bool true) ∧ Below w.heap.size w w' := by
  have HMK := Lib.hid (fun (A : Option Addr) (c : Nat) (w : World) => make_any [] A c w Reads.nil_ (by decide) (by decide))
  have z1 : make (bl []) = [] := by decide +kernel
  rw [z1] at HMK
  have hk : wrap64 ((IntKind.u64.wrap turn).tmod 1) = 0 := by rw [Int.tmod_one]; exact wrap64_small 0 (by omega) (by omega)
  have hk2 : (IntKind.u64.wrap turn).tmod 1 = 0 := Int.tmod_one _
  go_enter Try.func4, Try.ntmps4
  go_wp2_with fail
  refine (awake12_any _).mono ?_
  rintro e w1 ⟨rfl, hb1⟩
  have hs1 := hb1.size
  go_wp2_with fail
  refine (HMK.out A c w1).mono ?_
  rintro e w2 ⟨v, rfl, hown, hb2⟩
  have hs2 := hb2.size
  have hB2 := hb1.trans (hb2.mono hs1)
  obtain ⟨A1, c1, rfl, -⟩ := own_slice hown
  simp only [List.length_nil]
  go_wp2_with (at_builtin; go_must (refine app rowStr rfl _ _ rfl w2.heap.size _ 0 [] rfl (World.ownsRow_nil _ _ _ _) w2.heap.size _ 0 _ [] rfl rfl Reads.nil_ (by simp) (by omega) (by simp) ?_))
  all_goals
    intro v3 w3 hown3 hg3
    have hb3 : Below w2.heap.size w2 w3 := hg3.below (Below.refl _ _) (World.ownsRow_nil _ _ 9 _) (by simp)
    have hs3 := hb3.size
    clear hg3
    go_wp2_with (at_builtin; go_must (refine app rowStr rfl _ _ rfl w2.heap.size _ _ _ rfl (by exact hown3) w2.heap.size _ 0 _ [] rfl rfl Reads.nil_ (by simp) (by omega) hs3 ?_))
    intro v4 w4 hown4 hg4
    have hb4 := hg4.below hb3 hown3 hs3
    have hs4 := hb4.size
    obtain ⟨A4, c4, rfl, -⟩ := own_slice hown4
    have HMT := HMK.out A4 c4 w4.drew
    have HB4 := Lib.hid (hB2.trans (hb4.mono (Nat.le_trans hs1 hs2)))
    have e1 : (convert 23 9 (.slice A1 0 c1)).run Try.prog w4.drew = .ok (.string ⟨#[]⟩) w4.drew := run_str (l := []) (B := 0) Reads.nil_ rfl
    clear hg4 hown3 hown4 hb3 hb4 hown
    go_wp2_with fail
    go_region_with (first
      | (go_at_call 12; refine HMT.mono ?_; rintro e w5 ⟨v, rfl, hown5, hb5⟩; obtain ⟨A5, c5, rfl, -⟩ := own_slice hown5; have e2 : (convert 23 9 (.slice A5 0 c5)).run Try.prog w5 = .ok (.string ⟨#[]⟩) w5 := run_str (l := []) (B := 0) Reads.nil_ rfl; have e3 : (convert 23 9 (.slice A1 0 c1)).run Try.prog w5 = .ok (.string ⟨#[]⟩) w5 := run_str (l := []) (B := 0) Reads.nil_ rfl))
    all_goals
      have hB5 := HB4.out.drew.trans (hb5.mono HB4.out.size)
      have hs5 := hB5.size
      clear hown5 e2 e3
      go_wp2_with (at_builtin; go_must (refine app rowByte rfl (.tmp 39) (.tmp 40) rfl w5.heap.size _ _ _ rfl (World.ownsRow_lit (size := 1) w5 #[] 0 (Nat.le_refl _) (by decide) rfl) w5.heap.size _ 0 _ [] rfl rfl Reads.nil_ (by simp) (by omega) (by simp) ?_))
      intro v6 w6 hown6 hg6
      have hl0 := World.ownsRow_lit (base := w5.heap.size) (e := 5) (size := 1) w5 #[] 0 (Nat.le_refl _) (by decide) rfl
      have hb6 : Below w5.heap.size w5 w6 := hg6.below ((Below.refl _ _).alloc (Nat.le_refl _) _) hl0 (by simp)
      obtain ⟨A6, c6, rfl, -⟩ := own_slice hown6
      have HB6 := Lib.hid (hB5.trans (hb6.mono hs5))
      clear hg6 hl0 hb6 hown6 hB5
      go_wp2_with fail
      refine wp_loop_rounds 1 ?_
      rw [rounds_succ]
      go_wp2_with fail
      all_goals
        refine wp_loop_rounds 1 ?_
        rw [rounds_succ]
        go_wp2_with fail
        go_ret
        exact ⟨rfl, HB6.out⟩
end Go.Proofs.Ytpfladolkkhfdaa
