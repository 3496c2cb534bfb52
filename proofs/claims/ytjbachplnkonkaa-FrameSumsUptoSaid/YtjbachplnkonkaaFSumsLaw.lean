/- FrameSums: the walk of the law. -/
import Derived.Test.YtjbachplnkonkaaAwake2
namespace Go.Proofs.Ytjbachplnkonkaa
set_option linter.unusedVariables false
open Go.RowKit
open Varm Frm

def Parts (w : World) (B : Nat) (ps : List Part) : Prop := ∀ p ∈ ps, Reads w B p.A (p.l.map vb) ∧ p.l.length ≤ 9223372036854775807
theorem Parts.below {w w' : World} {B : Nat} {ps : List Part} (h : Parts w B ps) (hb : Below B w w') : Parts w' B ps := fun p hp => ⟨(h p hp).1.below hb, (h p hp).2⟩
theorem Parts.more {w : World} {B B' : Nat} {ps : List Part} (h : Parts w B ps) (hb : B ≤ B') : Parts w B' ps := fun p hp => ⟨(h p hp).1.more hb, (h p hp).2⟩
theorem Parts.get {w : World} {B : Nat} {ps : List Part} (h : Parts w B ps) {k : Nat} (hk : k < ps.length) : Reads w B ps[k].A (ps[k].l.map vb) := (h _ (List.getElem_mem _)).1

theorem allOf_take (ps : List Part) (k : Nat) (h : k < ps.length) : allOf (ps.take (k + 1)) = allOf (ps.take k) ++ ps[k].l := by
  rw [List.take_succ_eq_append_getElem h, allOf, List.flatMap_append]; simp [allOf]
theorem allOf_le (ps : List Part) (k : Nat) : (allOf (ps.take k)).length ≤ (allOf ps).length := by
  have h : allOf ps = allOf (ps.take k) ++ allOf (ps.drop k) := by
    unfold allOf
    rw [← List.flatMap_append, List.take_append_drop]
  rw [h, List.length_append]; omega

set_option maxHeartbeats 1000000 in
set_option maxRecDepth 100000 in
theorem fsums_any (ps : List Part) (A : Option Addr) (c : Nat) (w : World) (hr : Reads w w.heap.size A (ps.map Part.val)) (hp : Parts w w.heap.size ps) (hl : ps.length ≤ 1048576) (ht : (allOf ps).length ≤ 1048576) :
    Calls Try.prog 9 #[.slice A ps.length c] w fun e w' => e = .returned (.bool true) ∧ Below w.heap.size w w' := by
  have HP := Lib.hid hp
  clear hp
  go_enter Try.func9, Try.ntmps9
  go_wp2_with fail
  refine (awake2_any _).mono ?_
  rintro e w1 ⟨rfl, hb1⟩
  have hs1 := hb1.size
  go_wp2_with fail
  go_loopw [3, 4] (fun v i wr => ∃ k : Nat, k ≤ ps.length ∧ i = .int .i64 k ∧ wr.ownsRow w.heap.size 5 1 v (allOf (ps.take k)).length ((allOf (ps.take k)).map vb) ∧ Below w.heap.size w wr) (fun _ i _ => ps.length - (intOf i).toNat)
  case atStart => exact ⟨0, Nat.zero_le _, rfl, World.ownsRow_nil _ _ _ _, hb1⟩
  case round =>
    obtain ⟨k, hk, rfl, hown, hbr⟩ := hrel
    have hsr := hbr.size
    have hrr := hr.below hbr
    rcases Nat.lt_or_ge k ps.length with hlt | hge
    · obtain ⟨b, off, rfl, _, hcell⟩ := hrr.at_ (k := k) (by simpa using hlt)
      have h1 : wr.cell? ⟨b, off + k, none⟩ = some (ps[k].val) := hcell k _ (by simp [hlt])
      have hpk := ((HP.out.below hbr).get hlt)
      have HT := Lib.hid (allOf_take ps k hlt)
      have h2 := allOf_le ps (k + 1)
      rw [HT.out, List.length_append] at h2
      clear hcell hrr hr
      generalize ps[k] = p at h1 hpk HT h2
      obtain ⟨A1, l1, c1⟩ := p
      simp only [Part.val] at h1 hpk HT h2
      go_wp2_with (at_builtin; go_must (refine app rowByte rfl _ _ rfl w.heap.size _ _ _ rfl (by exact hown) w.heap.size _ _ _ (l1.map vb) rfl (by simp) (by exact hpk) (oneCell_vb _) (by omega) (by omega) ?_))
      intro v2 w2 hown2 hg2
      have hb2 := hg2.below hbr hown hsr
      rw [← List.map_append, ← List.length_append, ← HT.out] at hown2
      clear hg2 hown hpk hbr
      go_wp2_with fail
      go_roundw
      case rel => exact ⟨k + 1, by omega, by go_num, hown2, hb2⟩
      case measure => simp [intOf]; omega
    · obtain rfl : k = ps.length := by omega
      rw [List.take_length] at hown
      obtain ⟨A1, c1, rfl, -, -⟩ := own_slice hown
      have hx : ((sum (allOf ps) : Int) == (sum (allOf ps) : Int)) = true := by simp
      have hrO := Reads.of_own hown
      have HPr := HP.out.below hbr
      have HB := Lib.hid (hbr.alloc hsr (.cells #[.slice A1 (allOf ps).length c1] 24))
      have h1 := sum_any ps A c wr w.heap.size hrr HPr (by omega)
      have h2 := refSum_any (allOf ps) A1 c1 wr wr.heap.size hrO (by omega)
      have h3 := sum1 (allOf ps) A1 c1 wr.heap.size (wr.alloc (.cells #[.slice A1 (allOf ps).length c1] 24)) (wr.heap.size + 1) (cell_new wr _ _) (by omega) ((hrO.alloc (Nat.le_refl _) _).more (by omega)) (by omega)
      have h4 := refSum_any (allOf ps) A1 c1 (wr.alloc (.cells #[.slice A1 (allOf ps).length c1] 24)) wr.heap.size (hrO.alloc (Nat.le_refl _) _) (by omega)
      have H1 := Lib.hid h1
      have H2 := Lib.hid h2
      have H3 := Lib.hid h3
      have H4 := Lib.hid h4
      clear h1 h2 h3 h4 hrr hr hown hrO HPr hbr
      go_wp2_with fail
      refine H1.out.mono ?_
      rintro e w' ⟨rfl, rfl⟩
      go_wp2_with fail
      refine H2.out.mono ?_
      rintro e w' ⟨rfl, rfl⟩
      go_wp2_with fail
      refine H3.out.mono ?_
      rintro e w' ⟨rfl, rfl⟩
      go_wp2_with fail
      refine H4.out.mono ?_
      rintro e w' ⟨rfl, rfl⟩
      go_wp2_with fail
      go_ret
      exact ⟨rfl, HB.out⟩
end Go.Proofs.Ytjbachplnkonkaa
