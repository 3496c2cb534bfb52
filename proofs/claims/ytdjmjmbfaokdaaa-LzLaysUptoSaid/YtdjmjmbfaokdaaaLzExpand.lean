/- The walk of expanding: the program's. -/
import Derived.Test.YtdjmjmbfaokdaaaLzPart
namespace Go.Proofs.Ytdjmjmbfaokdaaa
set_option linter.unusedVariables false
open Go.RowKit
open Varm

/-- What an expanding answers. -/
def ExpAns (r : List UInt8 × Nat) (B : Nat) (w : World) (e : Ending) (w' : World) : Prop :=
  ∃ v, e = .returned (.tuple #[v, .int .i64 (r.2 : Int)]) ∧ w'.ownsRow B 5 1 v r.1.length (r.1.map vb) ∧ Below B w w'
theorem expAns_err {B : Nat} {w w' : World} {k : Int} {n : Nat} (h : k = (n : Int)) (hb : Below B w w') : ExpAns ([], n) B w (.returned (.tuple #[.slice none 0 0, .int .i64 k])) w' := by
  subst h
  exact ⟨_, rfl, World.ownsRow_nil _ _ _ _, hb⟩

/-- So many rounds suffice; more change nothing. -/
theorem partsAt_step {f : Nat} {out b : List UInt8} {at_ total : Nat} (h : at_ < b.length) (h0 : (partAt out b at_ total).2.2 = 0) :
    partsAt (f + 1) out b at_ total = partsAt f (partAt out b at_ total).1 b (partAt out b at_ total).2.1 total := by
  rw [partsAt, if_neg (by omega), if_neg (by simpa using h0)]

set_option maxHeartbeats 1000000 in
set_option maxRecDepth 100000 in
theorem expand_any (b : List UInt8) (A : Option Addr) (c : Nat) (most : Int) (w : World) (B : Nat) (hr : Reads w B A (b.map vb)) (hB : B ≤ w.heap.size) (hc : b.length ≤ c) (hc2 : c ≤ 9223372036854775807) (hm1 : -9223372036854775808 ≤ most) (hm2 : most ≤ 9223372036854775807) :
    Calls Try.prog 15 #[.slice A b.length c, .int .i64 most] w (ExpAns (expand b most) B w) := by
  have hg := get_any b A c 0 w B hr hc (by omega)
  obtain ⟨r1, r2, r3, r4, r5⟩ := getAt_range4 b 0
  have hP : expand b most = expand b most := rfl
  conv at hP => rhs; unfold expand
  obtain ⟨p, f, e, hv⟩ : ∃ p f e, getAt b 0 = (p, f, e) := ⟨_, _, _, rfl⟩
  rw [hv] at hg r1 r2 r3 r4 r5 hP
  simp only at r1 r2 r3 r4 r5 hP
  obtain ⟨t, rfl⟩ := Int.eq_ofNat_of_zero_le r2
  simp only [Int.toNat_natCast] at hP
  have HG := Lib.hid hg
  clear hg hv r2 r5
  rcases Nat.eq_zero_or_pos e with he | he
  · subst he
    rw [if_neg (by simp)] at hP
    by_cases hbad : most < 0 ∨ most < (p : Int) ∨ 65536 < p
    · rw [if_pos hbad] at hP
      rw [hP]
      clear hP
      have h3 : most < 0 ∨ (0 ≤ most ∧ most < (p : Int)) ∨ (0 ≤ most ∧ (p : Int) ≤ most ∧ (65536 : Int) < (p : Int)) := by omega
      clear hbad
      rcases h3 with h3 | ⟨h3, h4⟩ | ⟨h3, h4, h5⟩
      all_goals
        go_enter Try.func15, Try.ntmps15
        go_wp2_with (go_at_call 26; go_must (refine HG.out.mono ?_); rintro e w' ⟨rfl, rfl⟩; simp only [getV])
        go_ret2
        exact expAns_err rfl (Below.refl _ _)
    · rw [if_neg hbad] at hP
      rw [hP]
      clear hP
      have q0 : 0 ≤ most := by omega
      have q1 : (p : Int) ≤ most := by omega
      have q2 : (p : Int) ≤ 65536 := by omega
      have hpt : p ≤ 65536 := by omega
      clear hbad
      go_enter Try.func15, Try.ntmps15
      go_wp2_with fail
      refine HG.out.mono ?_
      rintro e w' ⟨rfl, rfl⟩
      simp only [getV, castZero]
      go_wp2_with fail
      go_loopw [7, 8, 9] (fun a e v wr => ∃ (at2 : Nat) (out : List UInt8) (f : Nat), a = .int .i64 at2 ∧ e = .int .i64 0 ∧ at2 ≤ b.length ∧ out.length ≤ p ∧ b.length - at2 < f ∧ Hid (partsAt (b.length + 1) [] b t p = partsAt f out b at2 p) ∧ wr.ownsRow B 5 1 v out.length (out.map vb) ∧ Below B w wr) (fun a _ _ _ => b.length - (intOf a).toNat)
      case atStart => exact ⟨t, [], b.length + 1, rfl, rfl, by omega, by simp, by omega, Lib.hid rfl, World.ownsRow_nil _ _ _ _, Below.refl _ _⟩
      case round =>
        obtain ⟨at2, out, f, rfl, rfl, hat, hout, hf, HF, hown, hbr⟩ := hrel
        have hsr := hbr.size
        rcases Nat.lt_or_ge at2 b.length with hlt | hge
        · have HPA := Lib.hid (part_any out b _ A c at2 p wr B hown (hr.below hbr) (by omega) hc hc2 hout hpt)
          obtain ⟨f', rfl⟩ : ∃ f', f = f' + 1 := ⟨f - 1, by omega⟩
          have hok := fun h => partAt_ok (b := b) (at_ := at2) hout h
          have hst := fun h => partsAt_step (f := f') (out := out) (total := p) hlt h
          have hbad : (partAt out b at2 p).2.2 ≠ 0 → partsAt (f' + 1) out b at2 p = ([], (partAt out b at2 p).2.2) := fun h => by rw [partsAt, if_neg (by omega), if_pos h]
          obtain ⟨o2, a2, e2, hv2⟩ : ∃ o2 a2 e2, partAt out b at2 p = (o2, a2, e2) := ⟨_, _, _, rfl⟩
          rw [hv2] at HPA hok hst hbad
          simp only at hok hst hbad
          obtain ⟨A1, c1, rfl, -⟩ := own_slice hown
          clear hv2 hown
          rcases Nat.eq_zero_or_pos e2 with he2 | he2
          · subst he2
            obtain ⟨k1, k2, k3, k4⟩ := hok rfl
            have HF2 : Hid (partsAt (b.length + 1) [] b t p = partsAt f' o2 b a2 p) := Lib.hid (HF.out.trans (hst rfl))
            clear hst hbad hok
            go_wp2_with fail
            refine HPA.out.mono ?_
            rintro e w2 ⟨v2, rfl, hown2, hb2⟩
            simp only [castZero]
            go_wp2_with fail
            go_roundw
            case rel => exact ⟨a2, o2, f', rfl, rfl, k4, k2, by omega, HF2, hown2, hbr.trans hb2⟩
            case measure => simp [intOf]; omega
          · have HF2 : Hid (partsAt (b.length + 1) [] b t p = ([], e2)) := Lib.hid (HF.out.trans (hbad (by omega)))
            have hb : ((e2 : Int) != 0) = true := by simp only [bne_iff_ne, ne_eq]; omega
            clear hst hbad hok
            go_wp2_with fail
            refine HPA.out.mono ?_
            rintro e w2 ⟨v2, rfl, hown2, hb2⟩
            go_wp2_with fail
            go_ret2
            rw [HF2.out]
            exact expAns_err rfl (hbr.trans hb2)
        · obtain rfl : at2 = b.length := by omega
          obtain ⟨f', rfl⟩ : ∃ f', f = f' + 1 := ⟨f - 1, by omega⟩
          obtain ⟨A1, c1, rfl, -⟩ := own_slice hown
          have HF2 : Hid (partsAt (b.length + 1) [] b t p = if out.length < p then ([], 5) else (out, 0)) := Lib.hid (by rw [HF.out, partsAt, if_pos (Nat.le_refl _)])
          rcases Nat.lt_or_ge out.length p with hs | hs
          · go_wp2_with fail
            go_ret2
            rw [HF2.out, if_pos hs]
            exact expAns_err rfl hbr
          · go_wp2_with fail
            go_ret2
            rw [HF2.out, if_neg (by omega)]
            exact ⟨_, rfl, hown, hbr⟩
  · rw [if_pos (by omega)] at hP
    rw [hP]
    clear hP
    have hb : ((e : Int) != 0) = true := by simp; omega
    go_enter Try.func15, Try.ntmps15
    go_wp2_with (go_at_call 26; go_must (refine HG.out.mono ?_); rintro e w' ⟨rfl, rfl⟩; simp only [getV])
    go_ret2
    exact expAns_err rfl (Below.refl _ _)
end Go.Proofs.Ytdjmjmbfaokdaaa
