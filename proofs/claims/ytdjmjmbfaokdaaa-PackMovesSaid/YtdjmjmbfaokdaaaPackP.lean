/- The walks of pack.put and pack.get. -/
import Derived.Test.YtdjmjmbfaokdaaaPackB
import Derived.Laws.BitsAllLaws
import Derived.Deep.DeepMust
import Derived.Deep.RegionWith
import Derived.Deep.QuietTactic
import Derived.BigQuiet
namespace Go.Proofs.Ytdjmjmbfaokdaaa
set_option linter.unusedVariables false
open Go.RowKit
open Varm Pk

theorem and_bit (x k : Nat) (hx : x < 18446744073709551616) : bits .and .u64 ((x : Int) / 2 ^ k) 1 = ((x.testBit k).toNat : Int) := by
  have e : (x : Int) / 2 ^ k = ((x / 2 ^ k : Nat) : Int) := by
    rw [Int.natCast_ediv]; congr 1
  have hle : x / 2 ^ k ≤ x := Nat.div_le_self _ _
  have := u64_and_nat (x / 2 ^ k) 1 (by omega) (by omega)
  rw [Nat.and_one_is_mod] at this
  rw [e]
  refine this.trans ?_
  rw [Nat.testBit_eq_decide_div_mod_eq]
  rcases Nat.mod_two_eq_zero_or_one (x / 2 ^ k) with h | h <;> simp [h]
theorem shl8 : ∀ (b : Bool) (t : Fin 8), (b.toNat : Int) % 256 * 2 ^ t.val % 256 = ((b.toNat * 2 ^ t.val : Nat) : Int) := by decide +kernel
theorem shl8_lt : ∀ (b : Bool) (t : Fin 8), b.toNat * 2 ^ t.val < 256 := by decide +kernel
theorem put_val (n x k t : Nat) (hn : n < 256) (hx : x < 18446744073709551616) (ht : t < 8) :
    Value.int .u8 (bits .or .u8 (n : Int) (bits .and .u64 ((x : Int) / 2 ^ k) 1 % 256 * 2 ^ t % 256)) = vb (UInt8.ofNat (n ||| (x.testBit k).toNat * 2 ^ t)) := by
  rw [and_bit x k hx, shl8 _ ⟨t, ht⟩]
  have h2 := shl8_lt (x.testBit k) ⟨t, ht⟩
  have h := u8_or_nat n ((x.testBit k).toNat * 2 ^ t) hn h2
  have hlt : n ||| (x.testBit k).toNat * 2 ^ t < 256 := Nat.or_lt_two_pow (n := 8) hn h2
  have e0 : ∀ z, z < 256 → (UInt8.ofNat z).toNat = z := fun z hz => by simp; omega
  have e := e0 _ hlt
  simp only [vb, e]
  exact congrArg _ h

/-- Nothing is laid. -/
theorem put_zero (v : Value) (p x : Int) (w : World) : Calls Try.prog 33 #[v, .int .i64 p, .int .i64 0, .int .u64 x] w fun e w' => e = .returned (.tuple #[]) ∧ w' = w := by
  go_enter Try.func33, Try.ntmps33
  go_wp2_with fail
  refine wp_loop_rounds 1 ?_
  rw [rounds_succ]
  go_wp2_with fail
  exact bodyPost_end (results_none rfl _ _ _) rfl ⟨rfl, rfl⟩

theorem put_none (wd : Nat) (h : wd ≤ 0) (v : Value) (p x : Int) (w : World) : Calls Try.prog 33 #[v, .int .i64 p, .int .i64 wd, .int .u64 x] w fun e w' => e = .returned (.tuple #[]) ∧ w' = w := by
  obtain rfl : wd = 0 := by omega
  exact put_zero v p x w

set_option maxRecDepth 100000 in
theorem put_bits (head : List UInt8) (f : Nat → Bool) (size p wd x : Nat) (g c c2 : Nat) (w : World) (B : Nat) (hown : w.ownsRow B 5 1 (.slice (some ⟨g, 0, none⟩) (head.length + size) c) (head.length + size) ((head ++ mkB f size).map vb))
    (hp : p + wd ≤ 8 * size) (hwd : wd ≤ 64) (hs : size ≤ 1000000) (hh : head.length ≤ 1000000) (hx : x < 18446744073709551616) (hc : size ≤ c2) (hf : ∀ j, p ≤ j → f j = false) :
    Calls Try.prog 33 #[.slice (some ⟨g, head.length, none⟩) size c2, .int .i64 p, .int .i64 wd, .int .u64 x] w fun e w' => e = .returned (.tuple #[]) ∧
      w'.ownsRow B 5 1 (.slice (some ⟨g, 0, none⟩) (head.length + size) c) (head.length + size) ((head ++ mkB (setBits f p wd x) size).map vb) ∧ w.grownBy w' (some g) := by
  go_enter Try.func33, Try.ntmps33
  go_wp2_with fail
  go_loopw [10] (fun i wr => ∃ k : Nat, k ≤ wd ∧ i = .int .i64 k ∧ wr.ownsRow B 5 1 (.slice (some ⟨g, 0, none⟩) (head.length + size) c) (head.length + size) ((head ++ mkB (setBits f p k x) size).map vb) ∧ w.grownBy wr (some g)) (fun i _ => wd - (intOf i).toNat)
  case atStart => exact ⟨0, Nat.zero_le _, rfl, by rw [setBits_zero]; exact hown, World.grownBy.refl _ _⟩
  case round =>
    obtain ⟨k, hk, rfl, hown, hgr⟩ := hrel
    rcases Nat.lt_or_ge k wd with hlt | hge
    · obtain ⟨g', hA, hbg, hlg, hfz, hcl, hset⟩ := own_store hown (by omega)
      injection hA with hA
      injection hA with hA
      subst hA
      obtain ⟨q, hq⟩ : ∃ q, q = p + k := ⟨_, rfl⟩
      have hq8 : q / 8 < size := by omega
      have e1 := hcl (head.length + q / 8) (by omega)
      have e2 := hfz (head.length + q / 8)
      have e3 := hset (head.length + q / 8)
      have hF : setBits f p k x q = false := by
        unfold setBits
        rw [if_neg (by omega)]
        exact hf q (by omega)
      have hget : ((head ++ mkB (setBits f p k x) size).map vb)[head.length + q / 8]? = some (vb (byteF (setBits f p k x) (q / 8))) := by
        rw [List.getElem?_map, List.getElem?_append_right (by omega), Nat.add_sub_cancel_left, mkB_get _ _ _ hq8]
        rfl
      rw [hget] at e1
      have e4 : wr.cell? ⟨g, head.length + q / 8, none⟩ = some (.int .u8 (byteN (setBits f p k x) (q / 8) : Int)) := by rw [e1, vb, byteF_nat]
      have w1 : IntKind.i64.wrap ((p : Int) + (k : Int)) = (q : Int) := (IntWalk.i64_in _ (by omega)).trans (by omega)
      have HQ := Lib.hid hq
      clear hq hcl hfz hset hget e1
      go_wp2_with fail
      go_region
      have hv : Value.int .u8 (bits .or .u8 (byteN (setBits f p k x) (q / 8) : Int) (bits .and .u64 ((x : Int) / 2 ^ k) 1 % 256 * 2 ^ (q % 8) % 256)) = vb (UInt8.ofNat (byteN (setBits f p k x) (q / 8) ||| (x.testBit k).toNat * 2 ^ (q % 8))) :=
        put_val _ _ _ _ (byteN_lt _ _) hx (Nat.mod_lt _ (by omega))
      rw [hv]
      obtain ⟨h1, h2⟩ := e3 (vb (UInt8.ofNat (byteN (setBits f p k x) (q / 8) ||| (x.testBit k).toNat * 2 ^ (q % 8))))
      have hrow : ((head ++ mkB (setBits f p k x) size).map vb).set (head.length + q / 8) (vb (UInt8.ofNat (byteN (setBits f p k x) (q / 8) ||| (x.testBit k).toNat * 2 ^ (q % 8)))) = (head ++ mkB (setBits f p (k + 1) x) size).map vb := by
        rw [← List.map_set, List.set_append_right _ _ (by omega), Nat.add_sub_cancel_left, mkB_set _ _ _ _ hq8 hF, setBits_succ, HQ.out]
      rw [hrow] at h1
      have h1' : ((wr.setCell ⟨g, head.length + q / 8, none⟩ (vb (UInt8.ofNat (byteN (setBits f p k x) (q / 8) ||| (x.testBit k).toNat * 2 ^ (q % 8))))).drew).ownsRow B 5 1 (.slice (some ⟨g, 0, none⟩) (head.length + size) c) (head.length + size) ((head ++ mkB (setBits f p (k + 1) x) size).map vb) := h1
      have h2' : w.grownBy ((wr.setCell ⟨g, head.length + q / 8, none⟩ (vb (UInt8.ofNat (byteN (setBits f p k x) (q / 8) ||| (x.testBit k).toNat * 2 ^ (q % 8))))).drew) (some g) := by
        have h := hgr.trans h2
        exact ⟨h.os, h.tape, h.output, h.size, h.block⟩
      generalize ((wr.setCell ⟨g, head.length + q / 8, none⟩ (vb (UInt8.ofNat (byteN (setBits f p k x) (q / 8) ||| (x.testBit k).toNat * 2 ^ (q % 8))))).drew) = W at *
      clear hown hgr h1 h2 e2 e3 e4 hv hrow
      go_wp2_with fail
      go_roundw
      case rel => exact ⟨k + 1, by omega, by go_num, h1', h2'⟩
      case measure => simp [intOf]; omega
    · obtain rfl : wd = k := by omega
      go_wp2_with fail
      refine bodyPost_end (results_none rfl _ _ _) rfl ⟨rfl, hown, hgr⟩
end Go.Proofs.Ytdjmjmbfaokdaaa
