/- FrameReads: the walk of the law. -/
import Derived.Test.YtjbachplnkonkaaAwake2
namespace Go.Proofs.Ytjbachplnkonkaa
set_option linter.unusedVariables false
open Go.RowKit
open Varm Frm

set_option maxRecDepth 100000 in
theorem one2_any (bs : List UInt8) (A : Option Addr) (c : Nat) (at_ : Int) (w : World) (B : Nat) (hB : B ≤ w.heap.size) (hr : Reads w B A (bs.map vb)) (hc : bs.length ≤ c) (hl : bs.length ≤ 4611686018427387904) :
    Calls Try.prog 28 #[.slice A bs.length c, .int .i64 at_] w fun e w' => e = .returned (.bool true) ∧ Below w.heap.size w w' := by
  have hr := hr.more hB
  have h1 := read_any bs A c at_ w hr hc (by omega)
  have h2 := fun W (h : Reads W W.heap.size A (bs.map vb)) => refRead_any bs A c at_ W h hc hl
  generalize readAt bs at_ = r at h1 h2
  obtain ⟨p, a2, a3⟩ := r
  have b2 : (a2 == a2) = true := by simp
  have b3 : ((a3 : Int) == a3) = true := by simp
  have b0 : (p == p) = true := by simp
  have H1 := Lib.hid h1
  have H2 := Lib.hid h2
  clear h1 h2
  go_enter Try.func28, Try.ntmps28
  go_wp2_with fail
  refine H1.out.mono ?_
  rintro e w1 ⟨v1, rfl, hown1, hb1⟩
  obtain ⟨A1, c1, rfl, -, -⟩ := own_slice hown1
  have hs1 := hb1.size
  go_wp2_with fail
  refine (H2.out w1 ((hr.below hb1).more hs1)).mono ?_
  rintro e w2 ⟨v2, rfl, hown2, hb2⟩
  obtain ⟨A2, c2, rfl, -, -⟩ := own_slice hown2
  have hown12 := own_past hown1 hb2 (Nat.le_refl _)
  have hstr1 := run_str (c := c1) (Reads.of_own hown12) rfl
  have hstr2 := run_str (c := c2) (Reads.of_own hown2) rfl
  have HB := Lib.hid (hb1.trans (hb2.mono hs1))
  clear hown1 hown2 hown12 hb1 hb2
  go_wp2
  go_ret
  exact ⟨rfl, HB.out⟩

set_option maxRecDepth 100000 in
theorem freads_any (bs : List UInt8) (A : Option Addr) (c : Nat) (at_ : Int) (w : World) (hr : Reads w w.heap.size A (bs.map vb)) (hc : bs.length ≤ c) (hl : bs.length ≤ 140737488355328) :
    Calls Try.prog 10 #[.slice A bs.length c, .int .i64 at_] w fun e w' => e = .returned (.bool true) ∧ Below w.heap.size w w' := by
  go_enter Try.func10, Try.ntmps10
  go_wp2_with fail
  refine (awake2_any _).mono ?_
  rintro e w1 ⟨rfl, hb1⟩
  have hs1 := hb1.size
  have h1 := frame_any bs A c w1 ((hr.below hb1).more hs1) (by omega)
  have h2 := fun W (h : Reads W W.heap.size A (bs.map vb)) => refFrame_any bs A c W h (by omega)
  generalize frameR bs = r at h1 h2
  obtain ⟨p, a3⟩ := r
  have b3 : ((a3 : Int) != a3) = false := by simp
  have b0 : (p != p) = false := by simp
  have H1 := Lib.hid h1
  have H2 := Lib.hid h2
  clear h1 h2
  go_wp2_with fail
  refine H1.out.mono ?_
  rintro e w2 ⟨v2, rfl, hown2, hb2⟩
  obtain ⟨A2, c2, rfl, -, -⟩ := own_slice hown2
  have hs2 := hb2.size
  go_wp2_with fail
  refine (H2.out w2 (((hr.below hb1).below (hb2.mono hs1)).more (by omega))).mono ?_
  rintro e w3 ⟨v3, rfl, hown3, hb3⟩
  obtain ⟨A3, c3, rfl, -, -⟩ := own_slice hown3
  have hs3 := hb3.size
  have hown23 := own_past hown2 hb3 (Nat.le_refl _)
  have hstr2 := run_str (c := c2) (Reads.of_own hown23) rfl
  have hstr3 := run_str (c := c3) (Reads.of_own hown3) rfl
  have HB3 := Lib.hid (hb1.trans ((hb2.trans (hb3.mono hs2)).mono hs1))
  clear hown2 hown3 hown23 hb1 hb2 hb3
  go_wp2_with fail
  clear hstr2 hstr3
  go_loopw [9] (fun i wr => ∃ k : Int, -1 ≤ k ∧ k ≤ 22 ∧ i = .int .i64 k ∧ Below w.heap.size w wr) (fun i _ => (23 - intOf i).toNat)
  case atStart => exact ⟨-1, by omega, by omega, rfl, HB3.out⟩
  case round =>
    obtain ⟨k, hk1, hk2, rfl, hbr⟩ := hrel
    have hsr := hbr.size
    have hrr := hr.below hbr
    go_wp2_with (go_at_call 28; go_must (refine (one2_any bs A c _ _ w.heap.size hsr hrr hc (by omega)).mono ?_); rintro e w4 ⟨rfl, hb4⟩)
    all_goals first
      | (go_ret; exact ⟨rfl, hbr.trans (hb4.mono hsr)⟩)
      | skip
    go_roundw
    case rel =>
      have hk3 : k ≤ (if (20 : Int) < bs.length then 20 else (bs.length : Int)) + 1 := by assumption
      exact ⟨k + 1, by omega, by split at hk3 <;> omega, rfl, hbr.trans (hb4.mono hsr)⟩
    case measure => simp [intOf]; omega
end Go.Proofs.Ytjbachplnkonkaa
