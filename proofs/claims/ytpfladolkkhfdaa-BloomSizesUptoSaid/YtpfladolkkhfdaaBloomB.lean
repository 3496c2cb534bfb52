/- Plain mathematics of chapter 12: which bits a filter has; what is found. -/
import Derived.Test.YtpfladolkkhfdaaBloomMk
namespace Go.Proofs.Ytpfladolkkhfdaa
set_option linter.unusedVariables false

theorem getD_set (f : List UInt8) (i j : Nat) (x : UInt8) (hi : i < f.length) : (f.set i x).getD j 0 = if i = j then x else f.getD j 0 := by
  rw [List.getD, List.getD, List.getElem?_set]
  by_cases h : i = j
  · subst h; simp [hi]
  · simp [h]
theorem bit_set {f : List UInt8} {p : Nat} (hp : p < 8 * f.length) (q : Nat) : bitAt (setBit f p) q = (bitAt f q || decide (p = q)) := by
  unfold bitAt setBit
  rw [getD_set _ _ _ _ (by omega)]
  by_cases h : p / 8 = q / 8
  · rw [if_pos h, UInt8.toNat_or, Nat.testBit_or, shl_val _ (by omega), Nat.testBit_two_pow, h]
    have : decide (p % 8 = q % 8) = decide (p = q) := by
      apply decide_eq_decide.2; omega
    rw [this]
  · rw [if_neg h]
    have : decide (p = q) = false := decide_eq_false (by rintro rfl; exact h rfl)
    rw [this, Bool.or_false]
/-- Is q one of the word's bits? -/
def isBit (w : List UInt8) (m q : Nat) : Bool := decide (place w 0 m = q) || decide (place w 1 m = q) || decide (place w 2 m = q)
theorem bit_word {f w : List UInt8} (hf : 0 < f.length) (q : Nat) : bitAt (setWord w f) q = (bitAt f q || isBit w (8 * f.length) q) := by
  have h : ∀ k, place w k (8 * f.length) < 8 * f.length := fun k => place_lt _ _ (by omega)
  unfold setWord isBit
  rw [bit_set (by rw [setBit_len, setBit_len]; exact h 2), bit_set (by rw [setBit_len]; exact h 1), bit_set (h 0)]
  simp only [Bool.or_assoc]
theorem bit_fill : ∀ (ws : List (List UInt8)) (f : List UInt8), 0 < f.length → ∀ q, bitAt (fill ws f) q = (bitAt f q || ws.any fun w => isBit w (8 * f.length) q)
  | [], f, _, q => by simp [fill]
  | w :: r, f, hf, q => by
    have ih := bit_fill r (setWord w f) (by rw [setWord_len]; exact hf) q
    rw [setWord_len, bit_word hf] at ih
    have e : fill (w :: r) f = fill r (setWord w f) := rfl
    rw [e, ih, List.any_cons, Bool.or_assoc]
theorem bit_zero (n q : Nat) : bitAt (List.replicate n 0) q = false := by
  unfold bitAt
  rw [List.getD, List.getElem?_replicate]
  split <;> simp
theorem make_len (ws : List (List UInt8)) : (make ws).length = sizeOf' (dn ws ws.length) := by rw [make, fill_len, ← dist_dn]; simp
theorem make_le (ws : List (List UInt8)) (h : ws.length ≤ 1000000000) : (make ws).length ≤ 10000000000 := by
  rw [make_len]
  have := dn_le ws ws.length
  unfold sizeOf'; omega
theorem make_pos {ws : List (List UInt8)} (h : 0 < ws.length) : 0 < (make ws).length := by
  rw [make_len]
  have := dn_pos ws ws.length h (Nat.le_refl _)
  unfold sizeOf'; omega
theorem bit_make {ws : List (List UInt8)} (h : 0 < ws.length) (q : Nat) : bitAt (make ws) q = ws.any fun w => isBit w (8 * (make ws).length) q := by
  have hl : (make ws).length = (List.replicate (sizeOf' (dist ws).length) (0 : UInt8)).length := by rw [make, fill_len]
  have hp := make_pos h
  rw [hl] at hp ⊢
  rw [make, bit_fill _ _ hp, bit_zero, Bool.false_or]
theorem has_iff {f w : List UInt8} (hf : 0 < f.length) : has f w = true ↔ ∀ k, k < 3 → bitAt f (place w k (8 * f.length)) = true := by
  have hn : f ≠ [] := by rintro rfl; simp at hf
  unfold has
  simp only [hn, ne_eq, not_false_eq_true, decide_true, Bool.true_and, Bool.and_eq_true]
  constructor
  · rintro ⟨⟨h0, h1⟩, h2⟩ k hk
    have : k = 0 ∨ k = 1 ∨ k = 2 := by omega
    rcases this with rfl | rfl | rfl <;> assumption
  · intro h
    exact ⟨⟨h 0 (by omega), h 1 (by omega)⟩, h 2 (by omega)⟩
theorem isBit_place (w : List UInt8) (m k : Nat) (hk : k < 3) : isBit w m (place w k m) = true := by
  have : k = 0 ∨ k = 1 ∨ k = 2 := by omega
  unfold isBit
  rcases this with rfl | rfl | rfl <;> simp
/-- What was put in is found. -/
theorem has_make {ws : List (List UInt8)} {w : List UInt8} (h : w ∈ ws) : has (make ws) w = true := by
  have hl : 0 < ws.length := List.length_pos_of_mem h
  rw [has_iff (make_pos hl)]
  intro k hk
  rw [bit_make hl, List.any_eq_true]
  exact ⟨w, h, isBit_place _ _ _ hk⟩
/-- More bits find no less. -/
theorem has_more {f g w : List UInt8} (hl : g.length = f.length) (hb : ∀ q, bitAt f q = true → bitAt g q = true) (h : has f w = true) : has g w = true := by
  have hf : 0 < f.length := by
    rcases Nat.eq_zero_or_pos f.length with h0 | h0
    · have : f = [] := List.eq_nil_of_length_eq_zero h0
      subst this
      simp [has] at h
    · exact h0
  rw [has_iff (by omega)] at h ⊢
  rw [hl]
  exact fun k hk => hb _ (h k hk)
theorem bits_ext {f g : List UInt8} (hl : f.length = g.length) (h : ∀ q, bitAt f q = bitAt g q) : f = g := by
  refine List.ext_getElem hl fun i h1 h2 => ?_
  refine UInt8.toNat_inj.1 (Nat.eq_of_testBit_eq fun j => ?_)
  rcases Nat.lt_or_ge j 8 with hj | hj
  · have := h (8 * i + j)
    unfold bitAt at this
    rw [show (8 * i + j) / 8 = i by omega, show (8 * i + j) % 8 = j by omega, List.getD, List.getD, List.getElem?_eq_getElem h1, List.getElem?_eq_getElem h2] at this
    exact this
  · have h256 : ∀ x : UInt8, x.toNat.testBit j = false := fun x => Nat.testBit_lt_two_pow (Nat.lt_of_lt_of_le x.toNat_lt (Nat.pow_le_pow_right (n := 2) (by omega) hj))
    rw [h256, h256]
theorem dist_nodup (ws : List (List UInt8)) : ∀ k, k ≤ ws.length → (dist (ws.take k)).Nodup
  | 0, _ => by simp [dist]
  | k + 1, h => by
    have ih := dist_nodup ws k (by omega)
    rw [dist_take (by omega)]
    split
    · exact ih
    · rename_i hm
      refine List.nodup_append.2 ⟨ih, by simp, fun a ha b hb => ?_⟩
      rw [List.mem_singleton.1 hb]
      rintro rfl
      exact hm ha
theorem dn_same {ws ws' : List (List UInt8)} (h : ∀ l, l ∈ ws ↔ l ∈ ws') : dn ws ws.length = dn ws' ws'.length := by
  rw [dist_dn, dist_dn]
  have h1 := dist_nodup ws ws.length (Nat.le_refl _)
  have h2 := dist_nodup ws' ws'.length (Nat.le_refl _)
  have m1 := fun l => mem_dist_take ws l ws.length (Nat.le_refl _)
  have m2 := fun l => mem_dist_take ws' l ws'.length (Nat.le_refl _)
  rw [List.take_length] at h1 h2 m1 m2
  exact ((List.perm_ext_iff_of_nodup h1 h2).2 fun l => by rw [m1, m2, h]).length_eq
/-- The same words, the same filter. -/
theorem make_same {ws ws' : List (List UInt8)} (h : ∀ l, l ∈ ws ↔ l ∈ ws') : make ws = make ws' := by
  have hl : (make ws).length = (make ws').length := by rw [make_len, make_len, dn_same h]
  rcases Nat.eq_zero_or_pos ws.length with h0 | h0
  · have e1 : ws = [] := List.eq_nil_of_length_eq_zero h0
    subst e1
    have e2 : ws' = [] := by
      cases ws' with
      | nil => rfl
      | cons a r => exact absurd ((h a).2 (by simp)) (by simp)
    rw [e2]
  · have h0' : 0 < ws'.length := by
      obtain ⟨a, ha⟩ := List.exists_mem_of_length_pos h0
      exact List.length_pos_of_mem ((h a).1 ha)
    refine bits_ext hl fun q => ?_
    rw [bit_make h0, bit_make h0', hl]
    rw [Bool.eq_iff_iff, List.any_eq_true, List.any_eq_true]
    constructor
    · rintro ⟨w, hw, hb⟩; exact ⟨w, (h w).1 hw, hb⟩
    · rintro ⟨w, hw, hb⟩; exact ⟨w, (h w).2 hw, hb⟩

/-! one bit turned -/
def flip (f : List UInt8) (i : Nat) : List UInt8 := f.set (i / 8) (f.getD (i / 8) 0 ^^^ (1 <<< UInt8.ofNat (i % 8)))
theorem flip_len (f : List UInt8) (i : Nat) : (flip f i).length = f.length := by simp [flip]
theorem bit_flip {f : List UInt8} {i : Nat} (hi : i < 8 * f.length) (q : Nat) : bitAt (flip f i) q = (bitAt f q ^^ decide (i = q)) := by
  unfold bitAt flip
  rw [getD_set _ _ _ _ (by omega)]
  by_cases h : i / 8 = q / 8
  · rw [if_pos h, UInt8.toNat_xor, Nat.testBit_xor, shl_val _ (by omega), Nat.testBit_two_pow, h]
    have : decide (i % 8 = q % 8) = decide (i = q) := by
      apply decide_eq_decide.2; omega
    rw [this]
  · rw [if_neg h]
    have : decide (i = q) = false := decide_eq_false (by rintro rfl; exact h rfl)
    rw [this, Bool.xor_false]
theorem flip_flip {f : List UInt8} {i : Nat} (hi : i < 8 * f.length) : flip (flip f i) i = f := by
  refine bits_ext (by rw [flip_len, flip_len]) fun q => ?_
  rw [bit_flip (by rw [flip_len]; exact hi), bit_flip hi, Bool.xor_assoc, Bool.xor_self, Bool.xor_false]
/-- Where all of a word's bits are on, a turned bit is missed just if it is one of them. -/
theorem has_flip {f w : List UInt8} (hf : 0 < f.length) (h : has f w = true) {i : Nat} (hi : i < 8 * f.length) : has (flip f i) w = !isBit w (8 * f.length) i := by
  have h2 := (has_iff hf).1 h
  cases hb : isBit w (8 * f.length) i with
  | true =>
    rw [Bool.not_true, ← Bool.not_eq_true]
    intro h3
    rw [has_iff (by rw [flip_len]; exact hf)] at h3
    rw [flip_len] at h3
    unfold isBit at hb
    simp only [Bool.or_eq_true, decide_eq_true_eq] at hb
    have : ∃ k, k < 3 ∧ place w k (8 * f.length) = i := by
      rcases hb with (h | h) | h
      · exact ⟨0, by omega, h⟩
      · exact ⟨1, by omega, h⟩
      · exact ⟨2, by omega, h⟩
    obtain ⟨k, hk, he⟩ := this
    have h4 := h3 k hk
    rw [bit_flip hi, h2 k hk, he] at h4
    simp at h4
  | false =>
    rw [Bool.not_false, has_iff (by rw [flip_len]; exact hf), flip_len]
    intro k hk
    rw [bit_flip hi, h2 k hk]
    have hne : i ≠ place w k (8 * f.length) := by
      rintro e
      rw [e, isBit_place w _ k hk] at hb
      cases hb
    simp [hne]
end Go.Proofs.Ytpfladolkkhfdaa
