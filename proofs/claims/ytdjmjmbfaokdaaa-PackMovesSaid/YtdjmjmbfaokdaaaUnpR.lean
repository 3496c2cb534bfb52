/- The walk of pack.rest. -/
import Derived.Test.YtdjmjmbfaokdaaaPackM
import Derived.Test.YtdjmjmbfaokdaaaPackG
import Derived.Test.YtdjmjmbfaokdaaaLen64
namespace Go.Proofs.Ytdjmjmbfaokdaaa
set_option linter.unusedVariables false
open Go.RowKit
open Varm Pk

/-- What an unpacking answers. -/
def UAns (r : List UInt64 × Nat × Nat) (B : Nat) (w : World) (e : Ending) (w' : World) : Prop :=
  ∃ v, e = .returned (.tuple #[v, .int .i64 (r.2.1 : Int), .int .i64 (r.2.2 : Int)]) ∧ w'.ownsRow B 33 1 v r.1.length (r.1.map vq) ∧ Below B w w'
theorem uAns_err {B : Nat} {w w' : World} {k : Int} {n : Nat} (h : k = (n : Int)) (hb : Below B w w') : UAns ([], 0, n) B w (.returned (.tuple #[.slice none 0 0, .int .i64 0, .int .i64 k])) w' := by
  subst h
  exact ⟨_, rfl, World.ownsRow_nil _ _ _ _, hb⟩

namespace Pk
theorem numAt_mono (f : Nat → Bool) (w first : Nat) {i n : Nat} (h : i ≤ n) : numAt f w first i ≤ numAt f w first n := by
  induction n with
  | zero => rw [show i = 0 by omega]; exact Nat.le_refl _
  | succ n ih =>
    rcases Nat.lt_or_ge i (n + 1) with h1 | h1
    · have := ih (by omega); rw [numAt]; omega
    · rw [show i = n + 1 by omega]; exact Nat.le_refl _
theorem numbers_len (f : Nat → Bool) (w first n : Nat) : (numbers f w first n).length = n := by simp [numbers]
theorem numbers_get (f : Nat → Bool) (w first n k : Nat) (h : k < n) : (numbers f w first n)[k]? = some (UInt64.ofNat (numAt f w first k)) := by simp [numbers, h]
theorem numbers_succ (f : Nat → Bool) (w first n : Nat) : numbers f w first (n + 1) = numbers f w first n ++ [UInt64.ofNat (numAt f w first n)] := by
  unfold numbers; rw [List.range_succ, List.map_append]; rfl
theorem vq_of {n : Nat} (h : n < 18446744073709551616) : vq (UInt64.ofNat n) = .int .u64 (n : Int) := by
  have : (UInt64.ofNat n).toNat = n := by simp; omega
  simp only [vq, this]
theorem needTo_le (f : Nat → Bool) (w : Nat) (hw : w ≤ 64) : ∀ k, needTo f w k ≤ 64
  | 0 => by simp [needTo]
  | k + 1 => by
    have := needTo_le f w hw k
    have h1 := getN_lt f (k * w) w
    have h2 : 2 ^ w ≤ 2 ^ 64 := Nat.pow_le_pow_right (by omega) hw
    have h3 := Go.Lib.bitLen_le (getN f (k * w) w) 64 (by omega) (by omega)
    simp only [needTo]; omega
theorem clean_iff (f : Nat → Bool) (m S : Nat) (hm : m ≤ 8 * S) : Clean f m S ↔ getN f m (8 * S - m) = 0 := by
  rw [getN_zero]
  constructor
  · intro h j hj
    exact h (m + j) (by omega) (by omega)
  · intro h j hj hmj
    have := h (j - m) (by omega)
    rwa [show m + (j - m) = j by omega] at this
end Pk

theorem ite_iff {α : Type} {p q : Prop} [Decidable p] [Decidable q] (h : p ↔ q) (x y : α) : (if p then x else y) = if q then x else y := by
  by_cases hq : q
  · rw [if_pos hq, if_pos (h.2 hq)]
  · rw [if_neg hq, if_neg (fun hp => hq (h.1 hp))]

set_option maxHeartbeats 2000000 in
set_option maxRecDepth 100000 in
theorem rest_any (b : List UInt8) (first n wd to : Nat) (vl : Value) (A : Option Addr) (c : Nat) (w : World) (B : Nat) (hown : w.ownsRow B 33 1 vl 1 [vq (UInt64.ofNat first)]) (hr : Reads w B A (b.map vb)) (hB : B ≤ w.heap.size)
    (hb : b.length = packSize n wd) (hn : n ≤ 65536) (hwd : wd ≤ 64) (hf : first < 18446744073709551616) :
    Calls Try.prog 36 #[vl, .slice A b.length c, .int .i64 n, .int .i64 wd, .int .i64 to] w (UAns (restOf (bitAt b) wd first n to) B w) := by
  have hbl := packSize_le n wd hn hwd
  have hbits := packSize_bits n wd
  have hpt : 8 * packSize n wd ≤ n * wd + 7 := by unfold packSize; omega
  rw [← hb] at hbl hbits hpt
  have hR : restOf (bitAt b) wd first n to = if 18446744073709551616 ≤ numAt (bitAt b) wd first n ∨ needTo (bitAt b) wd n ≠ wd ∨ getN (bitAt b) (n * wd) (8 * b.length - n * wd) ≠ 0 then ([], 0, 6) else (numbers (bitAt b) wd first (n + 1), to, 0) := by
    unfold restOf
    rw [← hb]
    have h := clean_iff (bitAt b) (n * wd) b.length hbits
    exact ite_iff (or_congr Iff.rfl (or_congr Iff.rfl (not_congr h))) _ _
  have HR := Lib.hid hR
  clear hR hb
  generalize hbf : bitAt b = f at *
  have HG := Lib.hid (fun (w' : World) (hw' : Reads w' B A (b.map vb)) (p k : Nat) (hp : p + k ≤ 8 * b.length) (hk : k ≤ 64) => hbf ▸ getBits_any b A c p k w' B hw' hp hk (by omega))
  clear hbf
  obtain ⟨A0, c0, rfl, -⟩ := own_slice hown
  go_enter Try.func36, Try.ntmps36
  go_wp2_with fail
  go_loopw [0, 13, 18] (fun v nd i wr => ∃ k : Nat, k ≤ n ∧ i = .int .i64 k ∧ nd = .int .i64 (needTo f wd k : Nat) ∧ numAt f wd first k < 18446744073709551616 ∧ wr.ownsRow B 33 1 v (k + 1) ((numbers f wd first (k + 1)).map vq) ∧ Below B w wr) (fun _ _ i _ => n - (intOf i).toNat)
  case atStart => exact ⟨0, Nat.zero_le _, rfl, rfl, hf, hown, Below.refl _ _⟩
  case round =>
    clear hown
    obtain ⟨k, hk, rfl, rfl, hnum, hown, hbr⟩ := hrel
    have hsr := hbr.size
    obtain ⟨A1, c1, rfl, -⟩ := own_slice hown
    have hndl := needTo_le f wd hwd k
    rcases Nat.lt_or_ge k n with hlt | hge
    · obtain ⟨P, hP⟩ : ∃ P, P = k * wd := ⟨_, rfl⟩
      have hPI : (k : Int) * (wd : Int) = (P : Int) := by rw [hP, Int.natCast_mul]
      have hle2 : (k + 1) * wd ≤ n * wd := Nat.mul_le_mul_right _ hlt
      rw [Nat.add_mul, Nat.one_mul, ← hP] at hle2
      have hg := HG.out wr (hr.below hbr) P wd (by omega) hwd
      have hdl := getN_lt f P wd
      have hd64 : 2 ^ wd ≤ 2 ^ 64 := Nat.pow_le_pow_right (by omega) hwd
      have HN1 : Hid (numAt f wd first (k + 1) = numAt f wd first k + getN f P wd + 1) := Lib.hid (by rw [numAt, hP])
      have HNT : Hid (needTo f wd (k + 1) = max (needTo f wd k) (Go.Lib.bitLen (getN f P wd))) := Lib.hid (by rw [needTo, hP])
      have hmono := numAt_mono f wd first (i := k + 1) (n := n) hlt
      obtain ⟨g, hA, hbg, hgl, -, hcl, -⟩ := own_store hown (by omega)
      subst hA
      have hcell := hcl k (by omega)
      rw [List.getElem?_map, numbers_get _ _ _ _ _ (by omega), Option.map_some, vq_of hnum] at hcell
      have HMO := Lib.hid hmono
      have HGG := Lib.hid hg
      have HD2 : getN f P wd < 18446744073709551616 := by omega
      generalize hdd : getN f P wd = d at *
      generalize hLL : numAt f wd first k = L at *
      have hPw : P ≤ 8000000 := by omega
      rcases Nat.lt_or_ge (L + d + 1) 18446744073709551616 with hok | hbad
      · have wr1 : IntKind.u64.wrap ((L : Int) + (d : Int)) = (L : Int) + (d : Int) := IntWalk.u64_in _ (by omega)
        have wr2 : IntKind.u64.wrap ((L : Int) + (d : Int) + 1) = (L : Int) + (d : Int) + 1 := IntWalk.u64_in _ (by omega)
        have q1 : decide ((L : Int) + (d : Int) + 1 ≤ (L : Int)) = false := decide_eq_false (by omega)
        have q2 : ((d : Int) == 18446744073709551615) = false := by simp only [beq_eq_false_iff_ne, ne_eq]; omega
        have hlen := len64_any (d : Int) wr (by omega) (by omega)
        simp only [Int.toNat_natCast] at hlen
        have HLN := Lib.hid hlen
        clear hg hdd hLL hP hcl hmono hlen hle2 hdl hd64
        go_wp2_with fail
        refine HGG.out.mono ?_
        rintro e w' ⟨rfl, rfl⟩
        go_wp2_with fail
        refine HLN.out.mono ?_
        rintro e w' ⟨rfl, rfl⟩
        have hTok : L + d + 1 < 18446744073709551616 := hok
        go_wp2_with (at_builtin; go_must (refine app1 rowNum rfl _ _ rfl _ B _ _ _ rfl (by exact hown) rfl rfl (by omega) (by omega) ?_))
        intro v6 w6 hown6 hg6
        have hb6 := hg6.below hbr hown (by omega)
        have hrow : (numbers f wd first (k + 1)).map vq ++ [.int .u64 ((L : Int) + (d : Int) + 1)] = (numbers f wd first (k + 1 + 1)).map vq := by
          rw [numbers_succ f wd first (k + 1), List.map_append]
          congr 1
          simp only [List.map_cons, List.map_nil]
          rw [HN1.out, vq_of hTok]
          rfl
        have hown7 : w6.ownsRow B 33 1 v6 (k + 1 + 1) ((numbers f wd first (k + 1 + 1)).map vq) := by
          rw [← hrow]; exact hown6
        clear hown6 hg6 hown hbr hrow
        go_wp2_with fail
        go_roundw
        case rel => exact ⟨k + 1, by omega, by go_num, by rw [HNT.out]; congr 1; omega, by rw [HN1.out]; exact hTok, hown7, hb6⟩
        case measure => simp [intOf]; omega
      · have HE : Hid (restOf f wd first n to = ([], 0, 6)) := Lib.hid (by
          rw [HR.out, if_pos (.inl (by have := HMO.out; have h2 := HN1.out; omega))])
        obtain ⟨S1, hS1⟩ : ∃ S1 : Nat, IntKind.u64.wrap ((L : Int) + (d : Int)) = (S1 : Int) ∧ S1 = (L + d) % 18446744073709551616 := ⟨(L + d) % 18446744073709551616, by rw [IntKind.wrap_u64]; omega, rfl⟩
        obtain ⟨V, hV⟩ : ∃ V : Nat, IntKind.u64.wrap ((S1 : Int) + 1) = (V : Int) ∧ V ≤ L := ⟨(S1 + 1) % 18446744073709551616, by rw [IntKind.wrap_u64]; omega, by omega⟩
        have wr1 := hS1.1
        have wr2 := hV.1
        have q1 : decide ((V : Int) ≤ (L : Int)) = true := decide_eq_true (by omega)
        have q1n : decide (V ≤ L) = true := decide_eq_true hV.2
        clear hg hdd hLL hP hcl hmono hle2 hdl hd64 hS1 hV
        go_wp2_with fail
        refine HGG.out.mono ?_
        rintro e w' ⟨rfl, rfl⟩
        go_wp2_with fail
        go_ret3
        rw [HE.out]
        exact uAns_err rfl hbr
    · obtain rfl : n = k := by omega
      obtain ⟨P, hP⟩ : ∃ P, P = n * wd := ⟨_, rfl⟩
      have hPI : (n : Int) * (wd : Int) = (P : Int) := by rw [hP, Int.natCast_mul]
      rw [← hP] at hbits hpt
      obtain ⟨R, hRR⟩ : ∃ R, R = 8 * b.length - P := ⟨_, rfl⟩
      have hRI : (b.length : Int) * 8 - (P : Int) = (R : Int) := by omega
      have hR7 : R ≤ 7 := by omega
      have HG1 := Lib.hid (HG.out wr (hr.below hbr) P R (by omega) (by omega))
      by_cases hnd : needTo f wd n = wd
      · have q1 : (((needTo f wd n : Nat) : Int) != (wd : Int)) = false := by rw [hnd]; simp
        by_cases hz : getN f P R = 0
        · have HE : Hid (restOf f wd first n to = (numbers f wd first (n + 1), to, 0)) := Lib.hid (by
            rw [HR.out, if_neg]
            intro h
            rcases h with h | h | h
            · omega
            · exact h hnd
            · rw [← hP, ← hRR] at h; exact h hz)
          have HND := Lib.hid hnd
          rw [hz] at HG1
          clear hP hRR hnd hz
          go_wp2_with fail
          refine HG1.out.mono ?_
          rintro e w' ⟨rfl, rfl⟩
          go_wp2_with fail
          go_ret3
          rw [HE.out]
          exact ⟨_, rfl, by rw [numbers_len]; exact hown, hbr⟩
        · have HE : Hid (restOf f wd first n to = ([], 0, 6)) := Lib.hid (by
            rw [HR.out, if_pos (.inr (.inr (by rw [← hP, ← hRR]; exact hz)))])
          have hzb : (((getN f P R : Nat) : Int) != 0) = true := by simp only [bne_iff_ne, ne_eq]; omega
          have HND := Lib.hid hnd
          generalize getN f P R = z at *
          clear hP hRR hnd
          go_wp2_with fail
          refine HG1.out.mono ?_
          rintro e w' ⟨rfl, rfl⟩
          go_wp2_with fail
          go_ret3
          rw [HE.out]
          exact uAns_err rfl hbr
      · have HE : Hid (restOf f wd first n to = ([], 0, 6)) := Lib.hid (by
          rw [HR.out, if_pos (.inr (.inl hnd))])
        have q1 : (((needTo f wd n : Nat) : Int) != (wd : Int)) = true := by simp only [bne_iff_ne, ne_eq]; omega
        clear hP hRR hnd
        go_wp2_with fail
        go_ret3
        rw [HE.out]
        exact uAns_err rfl hbr
end Go.Proofs.Ytdjmjmbfaokdaaa
