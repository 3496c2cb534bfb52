/- Plain mathematics of chapter 4: what is compressed is expanded to itself. No program in sight. -/
import Derived.Test.YtdjmjmbfaokdaaaLzC
import Derived.Test.YtdjmjmbfaokdaaaLzExpand
namespace Go.Proofs.Ytdjmjmbfaokdaaa
set_option linter.unusedVariables false
open Varm

theorem getAt_mid {pre rest : List UInt8} {n : Nat} (hn : n < 18446744073709551616) : getAt (pre ++ (one n ++ rest)) (pre.length : Nat) = (n, ((pre.length + (one n).length : Nat) : Int), 0) := by
  unfold getAt
  rw [if_neg (by simp only [List.length_append]; omega), Int.toNat_natCast, List.drop_left, getA_one0 n rest hn]
  simp
theorem getAt_midI {pre rest : List UInt8} {n : Nat} (hn : n < 18446744073709551616) {i : Int} (hi : i = (pre.length : Nat)) : getAt (pre ++ (one n ++ rest)) i = (n, ((pre.length + (one n).length : Nat) : Int), 0) := by
  subst hi; exact getAt_mid hn
/-- Of a number that is cut short the error is 5. -/
theorem getAt_cut {pre : List UInt8} {n j : Nat} (hn : n < 18446744073709551616) (hj : j < (one n).length) {i : Int} (hi : i = (pre.length : Nat)) : (getAt (pre ++ (one n).take j) i).2.2 ≠ 0 := by
  subst hi
  have h := getA_short n j 0 0 (by simpa using hn) (by omega) hj
  unfold getAt
  rw [if_neg (by simp only [List.length_append]; omega), Int.toNat_natCast, List.drop_left, if_neg (by rw [h]; simp)]
  simp only
  rw [h]
  simp

inductive LPart where
  | lit (l : List UInt8)
  | mat (n d : Nat)
namespace LPart
def enc : LPart → List UInt8
  | lit l => one (2 * l.length) ++ l
  | mat n d => one (2 * n + 1) ++ one d
def put (out : List UInt8) : LPart → List UInt8
  | lit l => out ++ l
  | mat n d => copyTo out d n
def ok (total : Nat) (out : List UInt8) : LPart → Prop
  | lit l => l ≠ [] ∧ out.length + l.length ≤ total
  | mat n d => 4 ≤ n ∧ 1 ≤ d ∧ d ≤ out.length ∧ out.length + n ≤ total
def encs (ps : List LPart) : List UInt8 := ps.flatMap enc
def puts (out : List UInt8) (ps : List LPart) : List UInt8 := ps.foldl put out
def oks (total : Nat) : List UInt8 → List LPart → Prop
  | _, [] => True
  | out, p :: ps => ok total out p ∧ oks total (put out p) ps
end LPart
open LPart

/-- A part is read as it was written. -/
theorem partAt_enc {total : Nat} (ht : total ≤ 65536) {out : List UInt8} {p : LPart} (h : ok total out p) (pre post : List UInt8) : partAt out (pre ++ (p.enc ++ post)) pre.length total = (p.put out, pre.length + p.enc.length, 0) := by
  cases p with
  | lit l =>
    obtain ⟨hl, hlen⟩ := h
    have hp : 0 < l.length := List.length_pos_iff.2 hl
    have e : pre ++ ((lit l).enc ++ post) = pre ++ (one (2 * l.length) ++ (l ++ post)) := by simp [enc]
    rw [e]
    have hg : getAt (pre ++ (one (2 * l.length) ++ (l ++ post))) (pre.length : Nat) = _ := getAt_mid (n := 2 * l.length) (by omega)
    have hd : (pre ++ (one (2 * l.length) ++ (l ++ post))).drop (pre.length + (one (2 * l.length)).length) = l ++ post := by
      rw [← List.append_assoc, ← List.length_append, List.drop_left]
    have hL : (pre ++ (one (2 * l.length) ++ (l ++ post))).length = pre.length + (one (2 * l.length)).length + (l.length + post.length) := by simp only [List.length_append]; omega
    unfold partAt
    rw [hg]
    simp only [Int.toNat_natCast, Nat.mul_div_cancel_left _ (show 0 < 2 by omega), Nat.mul_mod_right, hd, hL]
    rw [if_neg (by simp), if_neg (by omega), if_pos trivial, if_neg (by omega), List.take_left]
    refine Prod.ext rfl (Prod.ext ?_ rfl)
    simp only [enc, List.length_append]
    omega
  | mat n d =>
    obtain ⟨hn, hd1, hd2, hlen⟩ := h
    have e : pre ++ ((mat n d).enc ++ post) = pre ++ (one (2 * n + 1) ++ (one d ++ post)) := by simp [enc]
    have e2 : pre ++ (one (2 * n + 1) ++ (one d ++ post)) = (pre ++ one (2 * n + 1)) ++ (one d ++ post) := by simp
    rw [e]
    have hg : getAt (pre ++ (one (2 * n + 1) ++ (one d ++ post))) (pre.length : Nat) = _ := getAt_mid (n := 2 * n + 1) (by omega)
    have hg2 : getAt (pre ++ (one (2 * n + 1) ++ (one d ++ post))) ((pre.length + (one (2 * n + 1)).length : Nat) : Int) = (d, (((pre ++ one (2 * n + 1)).length + (one d).length : Nat) : Int), 0) := by
      rw [e2]; exact getAt_midI (n := d) (by omega) (by rw [List.length_append])
    unfold partAt
    rw [hg]
    simp only
    rw [hg2]
    have h1 : (2 * n + 1) / 2 = n := by omega
    have h2 : (2 * n + 1) % 2 = 1 := by omega
    simp only [Int.toNat_natCast, h1, h2]
    rw [if_neg (by simp), if_neg (by omega), if_neg (by simp), if_neg (by simp), if_neg (by omega)]
    refine Prod.ext rfl (Prod.ext ?_ rfl)
    simp only [enc, List.length_append]
    omega

/-- A part that is cut short is refused. -/
theorem partAt_cut {total : Nat} (ht : total ≤ 65536) {out : List UInt8} {p : LPart} (h : ok total out p) (pre : List UInt8) {j : Nat} (hj : j < p.enc.length) : (partAt out (pre ++ p.enc.take j) pre.length total).2.2 ≠ 0 := by
  cases p with
  | lit l =>
    obtain ⟨hl, hlen⟩ := h
    have hp : 0 < l.length := List.length_pos_iff.2 hl
    rcases Nat.lt_or_ge j (one (2 * l.length)).length with h1 | h1
    · have e : (lit l).enc.take j = (one (2 * l.length)).take j := by
        simp only [enc]; rw [List.take_append_of_le_length (by omega)]
      rw [e]
      have hc := getAt_cut (pre := pre) (n := 2 * l.length) (by omega) h1 (i := (pre.length : Nat)) rfl
      unfold partAt
      rw [if_pos hc]
      exact hc
    · have e : (lit l).enc.take j = one (2 * l.length) ++ l.take (j - (one (2 * l.length)).length) := by
        simp only [enc]; rw [List.take_append, List.take_of_length_le h1]
      have hj2 : j < (one (2 * l.length)).length + l.length := by simpa [enc] using hj
      rw [e]
      have hg := getAt_mid (pre := pre) (rest := l.take (j - (one (2 * l.length)).length)) (n := 2 * l.length) (by omega)
      have hL : (pre ++ (one (2 * l.length) ++ l.take (j - (one (2 * l.length)).length))).length = pre.length + j := by
        simp only [List.length_append, List.length_take]; omega
      unfold partAt
      rw [hg]
      simp only [Int.toNat_natCast, Nat.mul_div_cancel_left _ (show 0 < 2 by omega), Nat.mul_mod_right, hL]
      rw [if_neg (by simp), if_neg (by omega), if_pos trivial, if_pos (by omega)]
      simp
  | mat n d =>
    obtain ⟨hn, hd1, hd2, hlen⟩ := h
    rcases Nat.lt_or_ge j (one (2 * n + 1)).length with h1 | h1
    · have e : (mat n d).enc.take j = (one (2 * n + 1)).take j := by
        simp only [enc]; rw [List.take_append_of_le_length (by omega)]
      rw [e]
      have hc := getAt_cut (pre := pre) (n := 2 * n + 1) (by omega) h1 (i := (pre.length : Nat)) rfl
      unfold partAt
      rw [if_pos hc]
      exact hc
    · have e : (mat n d).enc.take j = one (2 * n + 1) ++ (one d).take (j - (one (2 * n + 1)).length) := by
        simp only [enc]; rw [List.take_append, List.take_of_length_le h1]
      have hj2 : j < (one (2 * n + 1)).length + (one d).length := by simpa [enc] using hj
      rw [e]
      have hg := getAt_mid (pre := pre) (rest := (one d).take (j - (one (2 * n + 1)).length)) (n := 2 * n + 1) (by omega)
      have hc : (getAt (pre ++ (one (2 * n + 1) ++ (one d).take (j - (one (2 * n + 1)).length))) ((pre.length + (one (2 * n + 1)).length : Nat) : Int)).2.2 ≠ 0 := by
        rw [← List.append_assoc]
        exact getAt_cut (by omega) (by omega) (by rw [List.length_append])
      unfold partAt
      rw [hg]
      have h1 : (2 * n + 1) / 2 = n := by omega
      have h2 : (2 * n + 1) % 2 = 1 := by omega
      simp only [Int.toNat_natCast, h1, h2]
      rw [if_neg (by simp), if_neg (by omega), if_neg (by simp), if_pos hc]
      exact hc

theorem enc_two (p : LPart) (total : Nat) (out : List UInt8) (h : ok total out p) : 2 ≤ p.enc.length := by
  cases p with
  | lit l =>
    have hp : 0 < l.length := List.length_pos_iff.2 h.1
    have := one_pos (2 * l.length)
    simp only [enc, List.length_append]; omega
  | mat n d =>
    have := one_pos (2 * n + 1)
    have := one_pos d
    simp only [enc, List.length_append]; omega

/-- Parts are read one behind the other. -/
theorem partsAt_encs {total : Nat} (ht : total ≤ 65536) : ∀ (ps : List LPart) (out pre post : List UInt8) (f : Nat), oks total out ps → ps.length ≤ f →
    partsAt f out (pre ++ (encs ps ++ post)) pre.length total = partsAt (f - ps.length) (puts out ps) (pre ++ (encs ps ++ post)) (pre.length + (encs ps).length) total
  | [], out, pre, post, f, _, _ => by simp [encs, puts]
  | p :: ps, out, pre, post, f, h, hf => by
    obtain ⟨h1, h2⟩ := h
    obtain ⟨f, rfl⟩ : ∃ f', f = f' + 1 := ⟨f - 1, by simp at hf; omega⟩
    have e : pre ++ (encs (p :: ps) ++ post) = pre ++ (p.enc ++ (encs ps ++ post)) := by simp [encs]
    have e2 : pre ++ (p.enc ++ (encs ps ++ post)) = (pre ++ p.enc) ++ (encs ps ++ post) := by simp
    have hp := partAt_enc ht h1 pre (encs ps ++ post)
    have he := enc_two p total out h1
    rw [e, partsAt_step (by simp only [List.length_append]; omega) (by rw [hp]), hp]
    simp only
    have ih := partsAt_encs ht ps (p.put out) (pre ++ p.enc) post f h2 (by simp at hf; omega)
    rw [List.length_append] at ih
    rw [e2, ih]
    have e3 : f + 1 - (p :: ps).length = f - ps.length := by simp
    have e4 : (encs (p :: ps)).length = p.enc.length + (encs ps).length := by simp [encs]
    rw [e3, e4, Nat.add_assoc]
    rfl

theorem oks_append {total : Nat} : ∀ (ps qs : List LPart) (out : List UInt8), oks total out (ps ++ qs) ↔ oks total out ps ∧ oks total (puts out ps) qs
  | [], qs, out => by simp [oks, puts]
  | p :: ps, qs, out => by
    have := oks_append (total := total) ps qs (p.put out)
    simp only [List.cons_append, oks, this, puts, List.foldl_cons, and_assoc]
theorem put_len {total : Nat} {out : List UInt8} {p : LPart} (h : ok total out p) : out.length < (p.put out).length ∧ (p.put out).length ≤ total := by
  cases p with
  | lit l =>
    have hp : 0 < l.length := List.length_pos_iff.2 h.1
    have := h.2
    simp only [LPart.put, List.length_append]; omega
  | mat n d =>
    obtain ⟨h1, h2, h3, h4⟩ := h
    simp only [LPart.put, copyTo_len]; omega
theorem puts_len {total : Nat} : ∀ (ps : List LPart) (out : List UInt8), oks total out ps → out.length ≤ total → (puts out ps).length ≤ total
  | [], out, _, h => h
  | p :: ps, out, h, _ => puts_len ps (p.put out) h.2 (put_len h.1).2
theorem encs_len {total : Nat} : ∀ (ps : List LPart) (out : List UInt8), oks total out ps → ps.length ≤ (encs ps).length
  | [], out, _ => Nat.zero_le _
  | p :: ps, out, h => by
    have h1 := enc_two p total out h.1
    have h2 := encs_len ps _ h.2
    simp only [encs, List.flatMap_cons, List.length_append, List.length_cons] at h2 ⊢
    omega

/-- What is written part by part is expanded. -/
theorem expand_encs {b : List UInt8} {ps : List LPart} (hb : b.length ≤ 65536) (h : oks b.length [] ps) (hp : puts [] ps = b) : expand (one b.length ++ encs ps) (b.length : Nat) = (b, 0) := by
  have hg := getAt_mid (pre := []) (rest := encs ps) (n := b.length) (by omega)
  simp only [List.nil_append, List.length_nil, Nat.zero_add] at hg
  have hps := partsAt_encs (total := b.length) (by omega) ps [] (one b.length) [] ((one b.length ++ encs ps).length + 1) h (by have := encs_len ps [] h; simp only [List.length_append]; omega)
  rw [List.append_nil] at hps
  unfold expand
  have h0 : getAt (one b.length ++ encs ps) 0 = getAt (one b.length ++ encs ps) ((0 : Nat) : Int) := rfl
  rw [h0, hg]
  rw [if_neg (by simp), if_neg (by simp only; omega)]
  simp only [Int.toNat_natCast]
  rw [hps]
  have hf : ∃ g, (one b.length ++ encs ps).length + 1 - ps.length = g + 1 := ⟨(one b.length ++ encs ps).length - ps.length, by have := encs_len ps [] h; simp only [List.length_append]; omega⟩
  obtain ⟨g, hg2⟩ := hf
  rw [hg2, partsAt, if_pos (by simp only [List.length_append]; omega), hp, if_neg (by omega)]

/-- With its last byte gone it is refused. -/
theorem expand_cut {b : List UInt8} {ps : List LPart} (hb : b.length ≤ 65536) (h : oks b.length [] ps) (hp : puts [] ps = b) : (expand ((one b.length ++ encs ps).take ((one b.length ++ encs ps).length - 1)) (b.length : Nat)).2 ≠ 0 := by
  rcases List.eq_nil_or_concat ps with rfl | ⟨qs, p, rfl⟩
  · have hb0 : b = [] := by simpa [puts] using hp.symm
    subst hb0
    decide +kernel
  · rw [List.concat_eq_append] at h hp ⊢
    obtain ⟨h1, h2, -⟩ := (oks_append qs [p] []).1 h
    have he := enc_two p _ _ h2
    have e : (one b.length ++ encs (qs ++ [p])).take ((one b.length ++ encs (qs ++ [p])).length - 1) = one b.length ++ (encs qs ++ p.enc.take (p.enc.length - 1)) := by
      have e1 : one b.length ++ encs (qs ++ [p]) = (one b.length ++ encs qs) ++ p.enc := by simp [encs]
      rw [e1, List.take_append, List.take_of_length_le (by simp only [List.length_append]; omega), List.append_assoc]
      congr 2
      congr 1
      simp only [List.length_append]; omega
    rw [e]
    have hg := getAt_mid (pre := []) (rest := encs qs ++ p.enc.take (p.enc.length - 1)) (n := b.length) (by omega)
    simp only [List.nil_append, List.length_nil, Nat.zero_add] at hg
    have hl2 : (p.enc.take (p.enc.length - 1)).length = p.enc.length - 1 := by rw [List.length_take]; omega
    have hq := encs_len qs [] h1
    have hps := partsAt_encs (total := b.length) (by omega) qs [] (one b.length) (p.enc.take (p.enc.length - 1)) ((one b.length ++ (encs qs ++ p.enc.take (p.enc.length - 1))).length + 1) h1 (by simp only [List.length_append]; omega)
    unfold expand
    have h0 : getAt (one b.length ++ (encs qs ++ p.enc.take (p.enc.length - 1))) 0 = getAt (one b.length ++ (encs qs ++ p.enc.take (p.enc.length - 1))) ((0 : Nat) : Int) := rfl
    rw [h0, hg]
    rw [if_neg (by simp), if_neg (by simp only; omega)]
    simp only [Int.toNat_natCast]
    rw [hps]
    have hf : ∃ g, (one b.length ++ (encs qs ++ p.enc.take (p.enc.length - 1))).length + 1 - qs.length = g + 1 := ⟨(one b.length ++ (encs qs ++ p.enc.take (p.enc.length - 1))).length - qs.length, by simp only [List.length_append]; omega⟩
    obtain ⟨g, hg2⟩ := hf
    have hcut := partAt_cut (total := b.length) (by omega) h2 (one b.length ++ encs qs) (j := p.enc.length - 1) (by omega)
    rw [List.append_assoc, List.length_append] at hcut
    rw [hg2, partsAt, if_neg (by simp only [List.length_append]; omega), if_pos hcut]
    exact hcut

/-- A copy out of what it lays. -/
theorem copy_take {b : List UInt8} {q p : Nat} (hq : q < p) : ∀ (k : Nat), k ≤ sameAt b q p → p ≤ b.length → copyTo (b.take p) (p - q) k = b.take (p + k)
  | 0, _, _ => rfl
  | k + 1, hk, hp => by
    have ih := copy_take hq k (by omega) hp
    have hs := sameAt_le b q p
    have hg := cpl_get (b.drop q) (b.drop p) k (by unfold sameAt at hk; omega)
    rw [List.getElem?_drop, List.getElem?_drop] at hg
    rw [copyTo, ih, List.length_take, show min (p + k) b.length - (p - q) = q + k by omega, ← Nat.add_assoc, List.take_succ_eq_append_getElem (by omega)]
    congr 2
    rw [List.getD, List.getElem?_take, if_pos (by omega), hg, List.getElem?_eq_getElem (by omega)]
    rfl

/-- What the compressing writes behind what is there. -/
theorem compS_parts {b : List UInt8} (hb : b.length ≤ 65536) : ∀ (f : Nat) (out : List UInt8) (S : List UInt8 → Option Nat) (from_ p : Nat), from_ ≤ p → p ≤ b.length → (∀ k q, S k = some q → q < p) → b.length - p < f →
    ∃ ps, compS b f out S from_ p = out ++ encs ps ∧ oks b.length (b.take from_) ps ∧ puts (b.take from_) ps = b ∧ (encs ps).length ≤ b.length - from_ + 3
  | 0, _, _, _, _, _, _, _, hf => by omega
  | f + 1, out, S, from_, p, h1, h2, hS, hf => by
    have hone : ∀ n, n ≤ 131073 → (one n).length ≤ 3 := fun n hn => one_len_pow 2 n (by omega)
    have hone1 : ∀ n, n < 128 → (one n).length ≤ 1 := fun n hn => one_len_pow 0 n (by omega)
    have hend : ∃ ps, litOf out (b.drop from_) = out ++ encs ps ∧ oks b.length (b.take from_) ps ∧ puts (b.take from_) ps = b ∧ (encs ps).length ≤ b.length - from_ + 3 := by
      by_cases h0 : b.drop from_ = []
      · refine ⟨[], by simp [litOf, h0, encs], trivial, ?_, by simp [encs]⟩
        have : b.length ≤ from_ := List.drop_eq_nil_iff.1 h0
        simp only [puts, List.foldl_nil]
        exact List.take_of_length_le this
      · refine ⟨[lit (b.drop from_)], by simp [litOf, h0, encs, enc], ⟨⟨h0, by rw [List.length_take, List.length_drop]; omega⟩, trivial⟩, by simp [puts, LPart.put], ?_⟩
        have := hone (2 * (b.drop from_).length) (by rw [List.length_drop]; omega)
        simp only [encs, List.flatMap_cons, List.flatMap_nil, List.append_nil, enc, List.length_append]
        rw [List.length_drop] at this ⊢
        omega
    by_cases hlt : b.length < p + 4
    · rw [compS_end hlt]; exact hend
    · have hS' : ∀ q' , p ≤ q' → ∀ k q, (if k = keyAt b p then some p else S k) = some q → q < q' + 1 := fun q' hq' k q hk => by
        split at hk
        · injection hk with hk; omega
        · have := hS k q hk; omega
      by_cases h8 : (if (S (keyAt b p)).isSome then sameAt b ((S (keyAt b p)).getD 0) p else 0) < 8
      · rw [compS_skip (by omega) h8]
        exact compS_parts hb f out _ from_ (p + 1) (by omega) (by omega) (hS' p (Nat.le_refl _)) (by omega)
      · obtain ⟨q, hq⟩ : ∃ q, S (keyAt b p) = some q := by
          cases hs : S (keyAt b p) with
          | none => rw [hs] at h8; simp at h8
          | some q => exact ⟨q, rfl⟩
        rw [hq] at h8
        simp only [Option.isSome_some, if_true, Option.getD_some] at h8
        have hqp := hS _ _ hq
        have hsl := sameAt_le b q p
        rw [compS_match (by omega) hq (by omega)]
        obtain ⟨ps, e1, e2, e3, e4⟩ := compS_parts hb f (litOf out ((b.drop from_).take (p - from_)) ++ (one (2 * sameAt b q p + 1) ++ one (p - q))) (fun k => if k = keyAt b p then some p else S k) (p + sameAt b q p) (p + sameAt b q p) (Nat.le_refl _) (by omega)
          (fun k q' hk => by have := hS' p (Nat.le_refl _) k q' hk; omega) (by omega)
        have hcopy := copy_take hqp (sameAt b q p) (Nat.le_refl _) h2
        have hm : ok b.length (b.take p) (mat (sameAt b q p) (p - q)) := ⟨by omega, by omega, by rw [List.length_take]; omega, by rw [List.length_take]; omega⟩
        have hml : (enc (mat (sameAt b q p) (p - q))).length + 3 ≤ sameAt b q p := by
          simp only [enc, List.length_append]
          have hd := hone (p - q) (by omega)
          rcases Nat.lt_or_ge (sameAt b q p) 63 with h | h
          · have := hone1 (2 * sameAt b q p + 1) (by omega); omega
          · have := hone (2 * sameAt b q p + 1) (by omega); omega
        have htail : oks b.length (b.take p) (mat (sameAt b q p) (p - q) :: ps) := ⟨hm, by simp only [LPart.put]; rw [hcopy]; exact e2⟩
        have hput : puts (b.take p) (mat (sameAt b q p) (p - q) :: ps) = b := by
          simp only [puts, List.foldl_cons, LPart.put]; rw [hcopy]; exact e3
        by_cases h0 : from_ = p
        · subst h0
          refine ⟨mat (sameAt b q from_) (from_ - q) :: ps, ?_, htail, hput, ?_⟩
          · rw [e1]; simp [litOf, encs, enc]
          · simp only [encs, List.flatMap_cons, List.length_append] at e4 ⊢
            omega
        · have hll : ((b.drop from_).take (p - from_)).length = p - from_ := by rw [List.length_take, List.length_drop]; omega
          have hne : (b.drop from_).take (p - from_) ≠ [] := by intro h; rw [h] at hll; simp at hll; omega
          have hjoin : b.take from_ ++ (b.drop from_).take (p - from_) = b.take p := by
            rw [← List.take_append_drop from_ (b.take p), List.take_take, List.drop_take, Nat.min_eq_left h1]
          refine ⟨lit ((b.drop from_).take (p - from_)) :: mat (sameAt b q p) (p - q) :: ps, ?_, ⟨⟨hne, by rw [List.length_take, hll]; omega⟩, by simp only [LPart.put]; rw [hjoin]; exact htail⟩, ?_, ?_⟩
          · rw [e1]; simp [litOf, hne, encs, enc]
          · simp only [puts, List.foldl_cons, LPart.put] at hput ⊢
            rw [hjoin]; exact hput
          · have := hone (2 * (p - from_)) (by omega)
            have hl1 : (enc (lit ((b.drop from_).take (p - from_)))).length = (one (2 * (p - from_))).length + (p - from_) := by simp only [enc, List.length_append, hll]
            simp only [encs, List.flatMap_cons, List.length_append] at e4 ⊢
            omega

/-- All of P4.2 in one. -/
theorem compress_back {b : List UInt8} (hb : b.length ≤ 65536) : (compress b).2 = 0 ∧ expand (compress b).1 (b.length : Nat) = (b, 0) ∧ (compress b).1.length ≤ b.length + 6 ∧ 0 < (compress b).1.length ∧
    (expand ((compress b).1.take ((compress b).1.length - 1)) (b.length : Nat)).2 ≠ 0 ∧ (expand (compress b).1 ((b.length : Nat) - 1 : Int)).2 = 4 := by
  have hE : compress b = (compS b (b.length + 1) (one b.length) (fun _ => none) 0 0, 0) := by unfold compress; rw [if_neg (by omega)]
  obtain ⟨ps, e1, e2, e3, e4⟩ := compS_parts hb (b.length + 1) (one b.length) (fun _ => none) 0 0 (Nat.le_refl _) (Nat.zero_le _) (fun k q h => by cases h) (by omega)
  rw [hE, e1]
  rw [List.take_zero] at e2 e3
  have h3 : (one b.length).length ≤ 3 := one_len_pow 2 b.length (by omega)
  have hp := one_pos b.length
  refine ⟨rfl, expand_encs hb e2 e3, by simp only [List.length_append]; omega, by simp only [List.length_append]; omega, expand_cut hb e2 e3, ?_⟩
  have hg := getAt_mid (pre := []) (rest := encs ps) (n := b.length) (by omega)
  simp only [List.nil_append, List.length_nil, Nat.zero_add] at hg
  unfold expand
  have h0 : getAt (one b.length ++ encs ps) 0 = getAt (one b.length ++ encs ps) ((0 : Nat) : Int) := rfl
  simp only
  rw [h0, hg]
  rw [if_neg (by simp), if_pos (by simp only; omega)]
end Go.Proofs.Ytdjmjmbfaokdaaa
