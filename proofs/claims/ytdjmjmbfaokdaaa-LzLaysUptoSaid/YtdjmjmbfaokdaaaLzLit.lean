/- The walk of lz.literal. -/
import Derived.Test.YtdjmjmbfaokdaaaLzSame
import Derived.Test.YtdjmjmbfaokdaaaPutN
namespace Go.Proofs.Ytdjmjmbfaokdaaa
set_option linter.unusedVariables false
open Go.RowKit
open Varm

theorem Grew.trans {w w1 w2 : World} {v v1 v2 : Value} (h : Grew w v w1 v1) (h' : Grew w1 v1 w2 v2) : Grew w v w2 v2 := by
  have h1 := h.by_
  have h2 := h'.by_
  have hs := h1.size
  refine ⟨⟨h2.os.trans h1.os, h2.tape.trans h1.tape, h2.output.trans h1.output, Nat.le_trans h1.size h2.size, fun k hk hne => ?_⟩, ?_⟩
  · refine (h2.block k (by omega) ?_).trans (h1.block k hk hne)
    rcases h.at_ with e | ⟨k', e, hk'⟩
    · rw [e]; exact hne
    · rw [e]
      intro e2
      injection e2 with e2
      omega
  · rcases h'.at_ with e | ⟨k', e, hk'⟩
    · rw [e]; exact h.at_
    · exact .inr ⟨k', e, by omega⟩
theorem Grew.refl (w : World) (v : Value) : Grew w v w v := ⟨World.grownBy.refl w _, .inl rfl⟩
/-- New memory alone. -/
theorem Grew.of_below {w w' : World} {B : Nat} (h : Below B w w') (hB : w.heap.size ≤ B) (v : Value) : Grew w v w' v := ⟨grown_of_below h hB _, .inl rfl⟩

set_option maxRecDepth 100000 in
theorem literal_any (out l : List UInt8) (vo : Value) (A : Option Addr) (c : Nat) (w : World) (B : Nat) (hown : w.ownsRow B 5 1 vo out.length (out.map vb)) (hr : Reads w B A (l.map vb)) (hB : B ≤ w.heap.size)
    (hl : l.length ≤ 65536) (ho : out.length ≤ 1000000) :
    Calls Try.prog 30 #[vo, .slice A l.length c] w fun e w' => ∃ v, e = .returned v ∧ w'.ownsRow B 5 1 v (litOf out l).length ((litOf out l).map vb) ∧ Below B w w' ∧ Grew w vo w' v := by
  obtain ⟨Ao, co, rfl, -⟩ := own_slice hown
  by_cases h0 : l = []
  · subst h0
    have hE : litOf out [] = out := by simp [litOf]
    rw [hE]
    go_enter Try.func30, Try.ntmps30
    go_wp2
    go_ret
    exact ⟨_, rfl, hown, Below.refl _ _, Grew.refl _ _⟩
  · have hE : litOf out l = out ++ one (2 * l.length) ++ l := by simp [litOf, h0]
    have hp : 0 < l.length := List.length_pos_iff.2 h0
    rw [hE]
    have hq : ((l.length : Int) == 0) = false := by simp only [beq_eq_false_iff_ne, ne_eq]; omega
    clear hE h0
    go_enter Try.func30, Try.ntmps30
    go_wp2_with fail
    have hP := put1_at (2 * l.length) (by omega) w w.heap.size rfl
    rw [show ((2 * l.length : Nat) : Int) = (l.length : Int) * 2 by omega] at hP
    refine hP.mono ?_
    rintro e w1 ⟨v1, rfl, hown1, hb1⟩
    have hol := one_len (2 * l.length) (by omega)
    have hs1 := hb1.size
    have hown01 := own_past hown hb1 (Nat.le_refl _)
    have hr1 := hr.below (hb1.mono hB)
    have hbB := hb1.mono hB
    obtain ⟨A1, c1, rfl, -⟩ := own_slice hown1
    have hrp := Reads.of_own hown1
    have HGp := Lib.hid (Grew.of_below hb1 (Nat.le_refl _) (.slice Ao out.length co))
    clear hP hb1 hr hown hown1
    go_wp2_with (at_builtin; go_must (refine app rowByte rfl _ _ rfl B _ _ _ rfl (by exact hown01) w1.heap.size _ _ _ ((one (2 * l.length)).map vb) rfl (by simp) (by exact hrp) (oneCell_vb _) (by omega) (by omega) ?_))
    intro v2 w2 hown2 hg2
    have hb2 := hg2.below hbB hown01 (by omega)
    have hs2 := hb2.size
    have hr2 := hr1.grown hg2.by_ (by omega) (fun g hg => (hown01.lt g hg).1)
    rw [← List.map_append, ← List.length_append] at hown2
    have hL : (out ++ one (2 * l.length)).length = out.length + (one (2 * l.length)).length := List.length_append
    have HGa := Lib.hid hg2
    clear hown01 hr1 hrp hg2 hbB
    go_wp2_with (at_builtin; go_must (refine app rowByte rfl _ _ rfl B _ _ _ rfl (by exact hown2) B _ _ _ (l.map vb) rfl (by simp) (by exact hr2) (oneCell_vb _) (by omega) (by omega) ?_))
    intro v3 w3 hown3 hg3
    have hb3 := hg3.below hb2 hown2 (by omega)
    have hown4 : w3.ownsRow B 5 1 v3 (out ++ one (2 * l.length) ++ l).length ((out ++ one (2 * l.length) ++ l).map vb) := by
      rw [List.length_append, List.map_append]; first | exact hown3 | simpa using hown3
    clear hown3
    clear hown2 hr2
    go_wp2_with fail
    go_ret
    exact ⟨_, rfl, hown4, hb3, (HGp.out.trans HGa.out).trans hg3⟩
end Go.Proofs.Ytdjmjmbfaokdaaa
