/- The walks that make frames. -/
import Derived.Test.YtjbachplnkonkaaSum
import Derived.Deep.DeepMust
namespace Go.Proofs.Ytjbachplnkonkaa
set_option linter.unusedVariables false
open Go.RowKit
open Varm Frm

/-- The checksum of one part, its place in a block of its own. -/
theorem sum1 (l : List UInt8) (A : Option Addr) (c b : Nat) (w : World) (B : Nat) (hc : w.cell? ⟨b, 0, none⟩ = some (.slice A l.length c)) (hb : b < B) (hr : Reads w B A (l.map vb)) (hl : l.length ≤ 9223372036854775807) :
    Calls Try.prog 24 #[.slice (some ⟨b, 0, none⟩) 1 1] w fun e w' => e = .returned (.int .u32 (sum l)) ∧ w = w' := by
  have h := sum_any [⟨A, l, c⟩] (some ⟨b, 0, none⟩) 1 w B (fun _ => ⟨b, 0, rfl, hb, fun j u hu => by
    match j, hu with
    | 0, hu =>
      simp [Part.val] at hu
      subst hu
      simpa using hc⟩) (by simpa using ⟨hr, hl⟩) (by simp)
  have e : allOf [⟨A, l, c⟩] = l := by simp [allOf]
  rw [e] at h
  exact h

/-- Four bytes of a number, as the program lays them. -/
theorem four_lit (s : Nat) (hs : s < 4294967296) : [Value.int .u8 (IntKind.u8.wrap (s : Int)), .int .u8 (IntKind.u8.wrap ((s : Int) / 256)), .int .u8 (IntKind.u8.wrap ((s : Int) / 65536)), .int .u8 (IntKind.u8.wrap ((s : Int) / 16777216))] = (four s).map vb := by
  simp [four, vb, IntKind.wrap_u8]

def frameR (l : List UInt8) : List UInt8 × Nat := if 65536 < l.length then ([], 4) else (frame l, 0)

set_option maxRecDepth 100000 in
theorem frame_long (l : List UInt8) (A : Option Addr) (c : Nat) (w : World) (B : Nat) (h : 65536 < l.length) (hl : l.length ≤ 9223372036854775807) :
    Calls Try.prog 26 #[.slice A l.length c] w fun e w' => e = .returned (.tuple #[.slice none 0 0, .int .i64 4]) ∧ w = w' := by
  go_enter Try.func26, Try.ntmps26
  go_wp2
  go_ret2
  exact ⟨rfl, rfl⟩

set_option maxRecDepth 100000 in
theorem frame_in (l : List UInt8) (A : Option Addr) (c : Nat) (w : World) (h : l.length ≤ 65536) (hr : Reads w w.heap.size A (l.map vb)) :
    Calls Try.prog 26 #[.slice A l.length c] w fun e w' => ∃ v, e = .returned (.tuple #[v, .int .i64 0]) ∧ w'.ownsRow w.heap.size 5 1 v (frame l).length ((frame l).map vb) ∧ Below w.heap.size w w' := by
  have HS := Lib.hid (sum_lt l)
  have HF := Lib.hid (four_lit (sum l) (sum_lt l))
  have ho := one_len l.length (by omega)
  have HFr := Lib.hid (show frame l = one l.length ++ l ++ four (sum l) from rfl)
  go_enter Try.func26, Try.ntmps26
  go_wp2_with (go_at_call 24; go_must (refine (sum1 l A c _ _ (w.heap.size + 1) (by simp) (by omega) ((hr.alloc (Nat.le_refl _) _).more (by omega)) (by omega)).mono ?_); rintro e w' ⟨rfl, rfl⟩)
  refine (put1 l.length (by omega) _ _ (by simp)).mono ?_
  rintro e w2 ⟨v, rfl, hown, hb2, hs2⟩
  simp only [World.size_alloc] at hown hb2 hs2
  obtain ⟨A2, c2, rfl, hc2, -⟩ := own_slice hown
  have hb02 : Below w.heap.size w w2 := ((Below.refl _ _).alloc (Nat.le_refl _) _).trans (hb2.mono (by omega))
  go_wp2_with (at_builtin; go_must (refine app rowByte rfl _ _ rfl (w.heap.size + 1 + 1) _ _ _ rfl (by exact hown) w.heap.size _ _ _ (l.map vb) rfl (by simp) (by exact hr.below hb02) (oneCell_vb _) (by omega) (by omega) ?_))
  intro v3 w3 hown3 hg3
  have hb03 : Below w.heap.size w w3 := hg3.below hb02 (own_base hown (by omega)) (by omega)
  have hs3 := hg3.by_.size
  have hl4 : (four (sum l)).length = 4 := rfl
  go_wp2_with (at_builtin; go_must (refine app rowByte rfl _ _ rfl (w.heap.size + 1 + 1) _ _ _ rfl (by exact hown3.alloc _) (w3.heap.size + 1) _ _ _ ((four (sum l)).map vb) rfl rfl (by rw [← HF.out]; exact reads_at rfl) (oneCell_vb _) (by omega) (by simp; omega) ?_))
  intro v4 w4 hown4 hg4
  have hb04 : Below w.heap.size w w4 := hg4.of_alloc.below hb03 (own_base hown3 (by omega)) (by omega)
  clear hg4 hg3 hown3 hown HF
  go_wp2
  go_ret2
  refine ⟨_, rfl, ?_, hb04⟩
  have h5 := own_base hown4 (show w.heap.size ≤ w.heap.size + 1 + 1 by omega)
  rw [← List.map_append, ← List.map_append, ← List.append_assoc] at h5
  rw [HFr.out, List.length_append, List.length_append, hl4]
  exact h5

/-- Frame: what it answers, of whatever bytes. -/
theorem frame_any (l : List UInt8) (A : Option Addr) (c : Nat) (w : World) (hr : Reads w w.heap.size A (l.map vb)) (hl : l.length ≤ 9223372036854775807) :
    Calls Try.prog 26 #[.slice A l.length c] w fun e w' => ∃ v, e = .returned (.tuple #[v, .int .i64 (frameR l).2]) ∧ w'.ownsRow w.heap.size 5 1 v (frameR l).1.length ((frameR l).1.map vb) ∧ Below w.heap.size w w' := by
  rcases Nat.lt_or_ge 65536 l.length with h | h
  · have e : frameR l = ([], 4) := if_pos h
    rw [e]
    exact (frame_long l A c w w.heap.size h hl).mono fun e' w' ⟨h1, h2⟩ => ⟨_, h1, by subst h2; exact World.ownsRow_nil _ _ _ _, by subst h2; exact Below.refl _ _⟩
  · have e : frameR l = (frame l, 0) := if_neg (by omega)
    rw [e]
    exact frame_in l A c w h hr

set_option maxRecDepth 100000 in
theorem refFrame_any (l : List UInt8) (A : Option Addr) (c : Nat) (w : World) (hr : Reads w w.heap.size A (l.map vb)) (hl : l.length ≤ 9223372036854775807) :
    Calls Try.prog 27 #[.slice A l.length c] w fun e w' => ∃ v, e = .returned (.tuple #[v, .int .i64 (frameR l).2]) ∧ w'.ownsRow w.heap.size 5 1 v (frameR l).1.length ((frameR l).1.map vb) ∧ Below w.heap.size w w' := by
  rcases Nat.lt_or_ge 65536 l.length with h | h
  · have e : frameR l = ([], 4) := if_pos h
    rw [e]
    go_enter Try.func27, Try.ntmps27
    go_wp2
    go_ret2
    exact ⟨_, rfl, World.ownsRow_nil _ _ _ _, Below.refl _ _⟩
  · have e : frameR l = (frame l, 0) := if_neg (by omega)
    rw [e]
    have ho := one_len l.length (by omega)
    have HFr := Lib.hid (show frame l = one l.length ++ l ++ four (sum l) from rfl)
    have hl4 : (four (sum l)).length = 4 := rfl
    go_enter Try.func27, Try.ntmps27
    go_wp2_with fail
    refine (one_all l.length _ w.heap.size (by omega) (by simp)).mono ?_
    rintro e w1 ⟨v1, rfl, hown1, hb1⟩
    obtain ⟨A1, c1, rfl, -⟩ := own_slice hown1
    have hs1 := hb1.size
    go_wp2_with (at_builtin; go_must (refine app rowByte rfl _ _ rfl w.heap.size _ _ _ rfl (by exact hown1) w.heap.size _ _ _ (l.map vb) rfl (by simp) (by exact hr.below hb1) (oneCell_vb _) (by omega) (by omega) ?_))
    intro v2 w2 hown2 hg2
    have hb2 := hg2.below hb1 hown1 hs1
    have hs2 := hb2.size
    have hr2 := hr.below hb2
    go_wp2_with fail
    refine (refSum_any l A c _ _ hr2 hl).mono ?_
    rintro e w' ⟨rfl, rfl⟩
    go_wp2_with fail
    refine (four_any (sum l) (sum_lt l) _ w2.heap.size (Nat.le_refl _)).mono ?_
    rintro e w3 ⟨v3, rfl, hown3, hb3⟩
    obtain ⟨A3, c3, rfl, -⟩ := own_slice hown3
    have hs3 := hb3.size
    have hown23 := own_past hown2 hb3 (Nat.le_refl _)
    go_wp2_with (at_builtin; go_must (refine app rowByte rfl _ _ rfl w.heap.size _ _ _ rfl (by exact hown23) w3.heap.size _ _ _ ((four (sum l)).map vb) rfl rfl (by exact Reads.of_own hown3) (oneCell_vb _) (by omega) (by omega) ?_))
    intro v4 w4 hown4 hg4
    have hb4 := hg4.below (hb2.trans (hb3.mono hs2)) hown23 (by omega)
    clear hg4 hg2 hown3 hown2 hown1 hown23
    go_wp2
    go_ret2
    refine ⟨_, rfl, ?_, hb4⟩
    rw [← List.map_append, ← List.map_append, ← List.append_assoc] at hown4
    rw [HFr.out, List.length_append, List.length_append, hl4]
    exact hown4
end Go.Proofs.Ytjbachplnkonkaa
