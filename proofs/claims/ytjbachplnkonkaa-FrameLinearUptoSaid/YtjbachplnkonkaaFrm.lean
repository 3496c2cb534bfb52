/- Plain mathematics of chapter 2: checksums and frames. No program in sight. -/
import Derived.Test.YtjbachplnkonkaaVarm
namespace Go.Proofs.Ytjbachplnkonkaa.Frm
set_option linter.unusedVariables false
open Varm

def poly : Nat := 3988292384
def stepBit (c : Nat) : Nat := if c % 2 = 1 then (c / 2) ^^^ 3988292384 else c / 2
def stepN : Nat → Nat → Nat
  | 0, c => c
  | k + 1, c => stepN k (stepBit c)
def stepByte (c : Nat) (b : UInt8) : Nat := stepN 8 (c ^^^ b.toNat)
def run (c : Nat) (bs : List UInt8) : Nat := bs.foldl stepByte c
def sum (bs : List UInt8) : Nat := 4294967295 ^^^ run 4294967295 bs

theorem stepBit_lt {c : Nat} (h : c < 4294967296) : stepBit c < 4294967296 := by
  unfold stepBit
  split
  · exact Nat.xor_lt_two_pow (n := 32) (by omega) (by decide)
  · omega
theorem stepN_lt : ∀ (k c : Nat), c < 4294967296 → stepN k c < 4294967296
  | 0, c, h => h
  | k + 1, c, h => stepN_lt k _ (stepBit_lt h)
theorem xorByte_lt {c : Nat} (b : UInt8) (h : c < 4294967296) : c ^^^ b.toNat < 4294967296 :=
  Nat.xor_lt_two_pow (n := 32) h (by have := UInt8.toNat_lt b; omega)
theorem stepByte_lt {c : Nat} (b : UInt8) (h : c < 4294967296) : stepByte c b < 4294967296 := stepN_lt 8 _ (xorByte_lt b h)
theorem run_lt : ∀ (bs : List UInt8) (c : Nat), c < 4294967296 → run c bs < 4294967296
  | [], c, h => h
  | b :: r, c, h => run_lt r _ (stepByte_lt b h)
theorem sum_lt (bs : List UInt8) : sum bs < 4294967296 := Nat.xor_lt_two_pow (n := 32) (by decide) (run_lt bs _ (by decide))
theorem sum_sub (bs : List UInt8) : sum bs = 4294967295 - run 4294967295 bs := by
  have h := run_lt bs 4294967295 (by decide)
  unfold sum
  have hb : (BitVec.ofNat 32 (run 4294967295 bs) ^^^ BitVec.allOnes 32) = ~~~(BitVec.ofNat 32 (run 4294967295 bs)) := BitVec.xor_allOnes
  have := congrArg BitVec.toNat hb
  rw [BitVec.toNat_xor, BitVec.toNat_ofNat, BitVec.toNat_allOnes, BitVec.toNat_not, BitVec.toNat_ofNat, Nat.mod_eq_of_lt (by omega)] at this
  rw [Nat.xor_comm]
  exact this

theorem run_append (a b : List UInt8) (c : Nat) : run c (a ++ b) = run (run c a) b := List.foldl_append ..
theorem run_cons (x : UInt8) (b : List UInt8) (c : Nat) : run c (x :: b) = run (stepByte c x) b := rfl
theorem run_snoc (b : List UInt8) (x : UInt8) (c : Nat) : run c (b ++ [x]) = stepByte (run c b) x := by rw [run_append]; rfl
theorem run_take (l : List UInt8) (k : Nat) (h : k < l.length) (c : Nat) : run c (l.take (k + 1)) = stepByte (run c (l.take k)) l[k] := by
  rw [List.take_succ_eq_append_getElem h, run_snoc]
theorem stepN_succ (k c : Nat) : stepN (k + 1) c = stepBit (stepN k c) := by
  induction k generalizing c with
  | zero => rfl
  | succ k ih => rw [stepN, ih, stepN]

theorem xor_rc {a b c : Nat} (h : a ^^^ c = b ^^^ c) : a = b := by
  have := congrArg (· ^^^ c) h
  simpa [Nat.xor_assoc] using this
theorem xor_lc {a b c : Nat} (h : c ^^^ a = c ^^^ b) : a = b := xor_rc (c := c) (by rw [Nat.xor_comm a, Nat.xor_comm b]; exact h)

/-! one bit turned -/
theorem stepBit_inj {a b : Nat} (ha : a < 4294967296) (hb : b < 4294967296) (h : stepBit a = stepBit b) : a = b := by
  have big : ∀ x : Nat, x < 4294967296 → 2147483648 ≤ (x / 2) ^^^ 3988292384 := by
    intro x hx
    refine Nat.ge_two_pow_of_testBit (i := 31) ?_
    rw [Nat.testBit_xor, Nat.testBit_lt_two_pow (show x / 2 < 2 ^ 31 by omega)]
    decide
  unfold stepBit at h
  split at h <;> split at h
  · have := xor_rc h
    omega
  · have := big a ha; omega
  · have := big b hb; omega
  · omega
theorem stepN_inj : ∀ (k : Nat) {a b : Nat}, a < 4294967296 → b < 4294967296 → stepN k a = stepN k b → a = b
  | 0, _, _, _, _, h => h
  | k + 1, a, b, ha, hb, h => stepBit_inj ha hb (stepN_inj k (stepBit_lt ha) (stepBit_lt hb) h)
theorem run_inj : ∀ (bs : List UInt8) {a b : Nat}, a < 4294967296 → b < 4294967296 → run a bs = run b bs → a = b
  | [], _, _, _, _, h => h
  | x :: r, a, b, ha, hb, h => by
    have h1 := run_inj r (stepByte_lt x ha) (stepByte_lt x hb) h
    exact xor_rc (stepN_inj 8 (xorByte_lt x ha) (xorByte_lt x hb) h1)
theorem sum_turned (a : List UInt8) (x y : UInt8) (r : List UInt8) (h : x ≠ y) : sum (a ++ x :: r) ≠ sum (a ++ y :: r) := by
  intro hs
  have h1 := xor_lc hs
  rw [run_append, run_append, run_cons, run_cons] at h1
  have hc := run_lt a 4294967295 (by decide)
  have h2 := run_inj r (stepByte_lt x hc) (stepByte_lt y hc) h1
  have h3 := stepN_inj 8 (xorByte_lt x hc) (xorByte_lt y hc) h2
  exact h (UInt8.toNat_inj.1 (xor_lc h3))

/-! linear -/
theorem stepBit_xor (a b : Nat) : stepBit (a ^^^ b) = stepBit a ^^^ stepBit b := by
  have hd : (a ^^^ b) / 2 = a / 2 ^^^ b / 2 := by
    have := Nat.shiftRight_xor_distrib (a := a) (b := b) (i := 1)
    simpa [Nat.shiftRight_eq_div_pow] using this
  have hm : (a ^^^ b) % 2 = (a % 2) ^^^ (b % 2) := by
    have := Nat.xor_mod_two_pow (a := a) (b := b) (n := 1)
    simpa using this
  unfold stepBit
  rw [hd, hm]
  rcases Nat.mod_two_eq_zero_or_one a with h1 | h1 <;> rcases Nat.mod_two_eq_zero_or_one b with h2 | h2 <;> rw [h1, h2]
  · rfl
  · show a / 2 ^^^ b / 2 ^^^ 3988292384 = a / 2 ^^^ (b / 2 ^^^ 3988292384)
    rw [Nat.xor_assoc]
  · show a / 2 ^^^ b / 2 ^^^ 3988292384 = a / 2 ^^^ 3988292384 ^^^ b / 2
    ac_rfl
  · show a / 2 ^^^ b / 2 = (a / 2 ^^^ 3988292384) ^^^ (b / 2 ^^^ 3988292384)
    have : (a / 2 ^^^ 3988292384) ^^^ (b / 2 ^^^ 3988292384) = (a / 2 ^^^ b / 2) ^^^ (3988292384 ^^^ 3988292384) := by ac_rfl
    rw [this, Nat.xor_self, Nat.xor_zero]
theorem stepN_xor : ∀ (k a b : Nat), stepN k (a ^^^ b) = stepN k a ^^^ stepN k b
  | 0, _, _ => rfl
  | k + 1, a, b => by rw [stepN, stepBit_xor, stepN_xor k]; rfl
theorem stepByte_xor (c d : Nat) (x y : UInt8) : stepByte (c ^^^ d) (x ^^^ y) = stepByte c x ^^^ stepByte d y := by
  unfold stepByte
  rw [← stepN_xor]
  congr 1
  rw [UInt8.toNat_xor]
  rw [Nat.xor_assoc, Nat.xor_assoc, ← Nat.xor_assoc d, Nat.xor_comm d, Nat.xor_assoc]
theorem run_xor3 : ∀ (n : Nat) (a b c : List UInt8) (u v t : Nat), a.length = n → b.length = n → c.length = n →
    run (u ^^^ v ^^^ t) ((List.range n).map fun i => a.getD i 0 ^^^ b.getD i 0 ^^^ c.getD i 0) = run u a ^^^ run v b ^^^ run t c
  | 0, a, b, c, u, v, t, ha, hb, hc => by
    rw [List.eq_nil_of_length_eq_zero ha, List.eq_nil_of_length_eq_zero hb, List.eq_nil_of_length_eq_zero hc]; rfl
  | n + 1, a, b, c, u, v, t, ha, hb, hc => by
    match a, ha, b, hb, c, hc with
    | x :: a, ha, y :: b, hb, z :: c, hc =>
      have h := run_xor3 n a b c (stepByte u x) (stepByte v y) (stepByte t z) (by simpa using ha) (by simpa using hb) (by simpa using hc)
      rw [List.range_succ_eq_map, List.map_cons, run_cons, List.map_map]
      simp only [List.getD_cons_zero]
      rw [stepByte_xor, stepByte_xor, run_cons, run_cons, run_cons, ← h]
      rfl
theorem sum_xor3 (n : Nat) (a b c : List UInt8) (ha : a.length = n) (hb : b.length = n) (hc : c.length = n) :
    sum ((List.range n).map fun i => a.getD i 0 ^^^ b.getD i 0 ^^^ c.getD i 0) = sum a ^^^ sum b ^^^ sum c := by
  have h := run_xor3 n a b c 4294967295 4294967295 4294967295 ha hb hc
  have e : (4294967295 : Nat) ^^^ 4294967295 ^^^ 4294967295 = 4294967295 := by decide
  rw [e] at h
  unfold sum
  rw [h]
  generalize run 4294967295 a = p
  generalize run 4294967295 b = q
  generalize run 4294967295 c = r
  have e2 : 4294967295 ^^^ p ^^^ (4294967295 ^^^ q) = p ^^^ q := by
    rw [Nat.xor_comm 4294967295 p, Nat.xor_assoc, ← Nat.xor_assoc 4294967295, Nat.xor_self, Nat.zero_xor]
  rw [e2]
  ac_rfl

/-! four bytes, frames -/
def four (s : Nat) : List UInt8 := [UInt8.ofNat (s % 256), UInt8.ofNat (s / 256 % 256), UInt8.ofNat (s / 65536 % 256), UInt8.ofNat (s / 16777216)]
def num4 (l : List UInt8) : Nat := (l.getD 0 0).toNat + (l.getD 1 0).toNat * 256 + (l.getD 2 0).toNat * 65536 + (l.getD 3 0).toNat * 16777216
theorem num4_four (s : Nat) (h : s < 4294967296) : num4 (four s) = s := by
  simp [num4, four]; omega
theorem four_num4 (l : List UInt8) (h : l.length = 4) : four (num4 l) = l := by
  match l, h with
  | [a, b, c, d], _ =>
    have ha := UInt8.toNat_lt a
    have hb := UInt8.toNat_lt b
    have hc := UInt8.toNat_lt c
    have hd := UInt8.toNat_lt d
    have e : num4 [a, b, c, d] = a.toNat + b.toNat * 256 + c.toNat * 65536 + d.toNat * 16777216 := rfl
    rw [e]
    unfold four
    have e1 : (a.toNat + b.toNat * 256 + c.toNat * 65536 + d.toNat * 16777216) % 256 = a.toNat := by omega
    have e2 : (a.toNat + b.toNat * 256 + c.toNat * 65536 + d.toNat * 16777216) / 256 % 256 = b.toNat := by omega
    have e3 : (a.toNat + b.toNat * 256 + c.toNat * 65536 + d.toNat * 16777216) / 65536 % 256 = c.toNat := by omega
    have e4 : (a.toNat + b.toNat * 256 + c.toNat * 65536 + d.toNat * 16777216) / 16777216 = d.toNat := by omega
    rw [e1, e2, e3, e4]
    simp
theorem four_eq (s : Nat) (h : s < 4294967296) (l : List UInt8) (hl : l.length = 4) : four s = l ↔ num4 l = s := by
  constructor
  · rintro rfl; exact num4_four s h
  · rintro rfl; exact four_num4 l hl
theorem four_length (s : Nat) : (four s).length = 4 := rfl

def frame (p : List UInt8) : List UInt8 := one p.length ++ p ++ four (sum p)

/-- What is read of a frame: the payload, the place behind it, the error. -/
def readAt (bs : List UInt8) (at_ : Int) : List UInt8 × Int × Nat :=
  if (getAt bs at_).2.2 ≠ 0 then ([], 0, (getAt bs at_).2.2)
  else if 65536 < (getAt bs at_).1 then ([], 0, 4)
  else if (bs.length : Int) - (getAt bs at_).2.1 < (getAt bs at_).1 + 4 then ([], 0, 5)
  else if num4 ((bs.drop ((getAt bs at_).2.1.toNat + (getAt bs at_).1)).take 4) ≠ sum ((bs.drop (getAt bs at_).2.1.toNat).take (getAt bs at_).1) then ([], 0, 7)
  else ((bs.drop (getAt bs at_).2.1.toNat).take (getAt bs at_).1, (getAt bs at_).2.1 + (getAt bs at_).1 + 4, 0)

theorem frame_length (p : List UInt8) : (frame p).length = (one p.length).length + p.length + 4 := by
  simp [frame, four_length]; omega

theorem getAt_one (pre rest : List UInt8) (n : Nat) (h : n < 18446744073709551616) : getAt (pre ++ (one n ++ rest)) pre.length = (n, (pre.length : Int) + (one n).length, 0) := by
  unfold getAt
  rw [if_neg (by simp; omega), Int.toNat_natCast, List.drop_left' rfl, getA_one0 n rest h]
  rfl

/-- What stands behind a number is read as the checksum says. -/
theorem readAt_parts (pre p f rest : List UInt8) (hp : p.length ≤ 65536) (hf : f.length = 4) :
    readAt (pre ++ (one p.length ++ (p ++ (f ++ rest)))) pre.length = if num4 f ≠ sum p then ([], 0, 7) else (p, (pre.length : Int) + (one p.length).length + p.length + 4, 0) := by
  have hg := getAt_one pre (p ++ (f ++ rest)) p.length (by omega)
  have h1 : ((pre.length : Int) + (one p.length).length).toNat = pre.length + (one p.length).length := by omega
  have hd : (pre ++ (one p.length ++ (p ++ (f ++ rest)))).drop (pre.length + (one p.length).length) = p ++ (f ++ rest) := by
    rw [← List.append_assoc, List.drop_left' (by simp)]
  have hd2 : (pre ++ (one p.length ++ (p ++ (f ++ rest)))).drop (pre.length + (one p.length).length + p.length) = f ++ rest := by
    rw [← List.append_assoc, ← List.append_assoc, List.drop_left' (by simp; omega)]
  unfold readAt
  rw [hg]
  simp only
  rw [if_neg (by simp), if_neg (by omega), if_neg (by simp; omega), h1, hd, hd2, List.take_left' rfl, List.take_left' hf]

theorem readAt_frame (pre p rest : List UInt8) (hp : p.length ≤ 65536) : readAt (pre ++ (frame p ++ rest)) pre.length = (p, (pre.length : Int) + (frame p).length, 0) := by
  have h := readAt_parts pre p (four (sum p)) rest hp rfl
  rw [num4_four _ (sum_lt p), if_neg (by simp)] at h
  have e : pre ++ (frame p ++ rest) = pre ++ (one p.length ++ (p ++ (four (sum p) ++ rest))) := by simp [frame]
  rw [e, h, frame_length]
  simp; omega

/-- A beginning is too short. -/
theorem readAt_short (p : List UInt8) (hp : p.length ≤ 65536) (k : Nat) (hk : k < (frame p).length) : readAt ((frame p).take k) 0 = ([], 0, 5) := by
  rcases Nat.lt_or_ge k (one p.length).length with h | h
  · have ht : (frame p).take k = (one p.length).take k := by
      unfold frame
      rw [List.append_assoc, List.take_append_of_le_length (by omega)]
    have h5 := getA_short p.length k 0 0 (by simp; omega) (by omega) h
    have hg : getAt ((frame p).take k) 0 = (0, 0, 5) := by
      rw [ht]
      unfold getAt
      rw [if_neg (by omega), show (0 : Int).toNat = 0 from rfl, List.drop_zero, h5]
      rfl
    unfold readAt
    rw [hg]
    simp
  · have ht : ∃ r, (frame p).take k = one p.length ++ r ∧ r.length < p.length + 4 := by
      refine ⟨(p ++ four (sum p)).take (k - (one p.length).length), ?_, ?_⟩
      · unfold frame
        rw [List.append_assoc, List.take_append, List.take_of_length_le h]
      · rw [frame_length] at hk
        simp [four_length]; omega
    obtain ⟨r, ht, hr⟩ := ht
    have hg := getAt_one [] r p.length (by omega)
    simp only [List.nil_append, List.length_nil] at hg
    rw [ht]
    unfold readAt
    have hg' : getAt (one p.length ++ r) 0 = (p.length, (0 : Nat) + ((one p.length).length : Int), 0) := hg
    rw [hg']
    simp only
    rw [if_neg (by simp), if_neg (by omega), if_pos (by simp; omega)]

/-- With one byte turned behind its length it isn't taken. -/
theorem readAt_turned (p : List UInt8) (hp : p.length ≤ 65536) (j : Nat) (hj : j < p.length + 4) (x : UInt8) (hx : some x ≠ (frame p)[(one p.length).length + j]?) :
    readAt ((frame p).set ((one p.length).length + j) x) 0 = ([], 0, 7) := by
  have key : ∀ q f : List UInt8, q.length = p.length → f.length = 4 → num4 f ≠ sum q → (frame p).set ((one p.length).length + j) x = one p.length ++ (q ++ f) → readAt ((frame p).set ((one p.length).length + j) x) 0 = ([], 0, 7) := by
    intro q f hq hf hne he
    have h := readAt_parts [] q f [] (by omega) hf
    rw [if_pos hne, hq, List.append_nil] at h
    rw [he]
    exact h
  have e0 : frame p = one p.length ++ (p ++ four (sum p)) := by simp [frame]
  rcases Nat.lt_or_ge j p.length with h | h
  · refine key (p.set j x) (four (sum p)) (by simp) rfl ?_ ?_
    · rw [num4_four _ (sum_lt p)]
      intro hs
      have hp1 : p = p.take j ++ p[j] :: p.drop (j + 1) := by rw [List.getElem_cons_drop, List.take_append_drop]
      have hp2 : p.set j x = p.take j ++ x :: p.drop (j + 1) := List.set_eq_take_append_cons_drop .. |>.trans (by rw [if_pos h])
      have hne : p[j] ≠ x := by
        intro hx'
        apply hx
        rw [e0, List.getElem?_append_right (by omega), Nat.add_sub_cancel_left, List.getElem?_append_left h, List.getElem?_eq_getElem h, hx']
      have := sum_turned (p.take j) p[j] x (p.drop (j + 1)) hne
      rw [← hp2, ← hp1] at this
      exact this hs
    · rw [e0, List.set_append_right _ _ (by omega), Nat.add_sub_cancel_left, List.set_append_left _ _ h]
  · refine key p ((four (sum p)).set (j - p.length) x) rfl (by simp [four_length]) ?_ ?_
    · intro hs
      have h1 := (four_eq (sum p) (sum_lt p) ((four (sum p)).set (j - p.length) x) (by simp [four_length])).2 hs
      apply hx
      rw [e0, List.getElem?_append_right (by omega), Nat.add_sub_cancel_left, List.getElem?_append_right (by omega), h1, List.getElem?_set_self (by simp [four_length]; omega)]
    · rw [e0, List.set_append_right _ _ (by omega), Nat.add_sub_cancel_left, List.set_append_right _ _ h]

end Go.Proofs.Ytjbachplnkonkaa.Frm
