/- The walks that read frames. -/
import Derived.Test.YtjbachplnkonkaaFrame
import Derived.Test.YtjbachplnkonkaaGetsLaw
import Derived.Deep.QuietTactic
import Derived.BigQuiet
namespace Go.Proofs.Ytjbachplnkonkaa
set_option linter.unusedVariables false
open Go.RowKit
open Varm Frm

theorem or4 (a b c d : UInt8) : bits .or .u32 (bits .or .u32 (bits .or .u32 (a.toNat : Int) ((b.toNat : Int) * 256)) ((c.toNat : Int) * 65536)) ((d.toNat : Int) * 16777216) = ((num4 [a, b, c, d] : Nat) : Int) := by
  have ha := UInt8.toNat_lt a
  have hb := UInt8.toNat_lt b
  have hc := UInt8.toNat_lt c
  have hd := UInt8.toNat_lt d
  have e1 : bits .or .u32 (a.toNat : Int) ((b.toNat : Int) * 256) = ((a.toNat + b.toNat * 256 : Nat) : Int) := by
    have h := u32_or_nat a.toNat (b.toNat * 256) (by omega) (by omega)
    rw [Nat.or_comm, nat_join 8 _ _ (by omega) (by omega), Nat.add_comm (b.toNat * 256)] at h
    rw [← h]; congr 1
  have e2 : bits .or .u32 ((a.toNat + b.toNat * 256 : Nat) : Int) ((c.toNat : Int) * 65536) = ((a.toNat + b.toNat * 256 + c.toNat * 65536 : Nat) : Int) := by
    have h := u32_or_nat (a.toNat + b.toNat * 256) (c.toNat * 65536) (by omega) (by omega)
    rw [Nat.or_comm, nat_join 16 _ _ (by omega) (by omega), Nat.add_comm (c.toNat * 65536)] at h
    rw [← h]; congr 1
  have e3 : bits .or .u32 ((a.toNat + b.toNat * 256 + c.toNat * 65536 : Nat) : Int) ((d.toNat : Int) * 16777216) = ((a.toNat + b.toNat * 256 + c.toNat * 65536 + d.toNat * 16777216 : Nat) : Int) := by
    have h := u32_or_nat (a.toNat + b.toNat * 256 + c.toNat * 65536) (d.toNat * 16777216) (by omega) (by omega)
    rw [Nat.or_comm, nat_join 24 _ _ (by omega) (by omega), Nat.add_comm (d.toNat * 16777216)] at h
    rw [← h]; congr 1
  rw [e1, e2, e3]
  rfl

theorem cell_new (w : World) (u : Value) (t : TypeId) : (w.alloc (.cells #[u] t)).cell? ⟨w.heap.size, 0, none⟩ = some u := by simp

/-- What a Read answers, as values. -/
def Answers (r : List UInt8 × Int × Nat) (w : World) (e : Ending) (w' : World) : Prop :=
  ∃ v, e = .returned (.tuple #[v, .int .i64 r.2.1, .int .i64 (r.2.2 : Int)]) ∧ w'.ownsRow w.heap.size 5 1 v r.1.length (r.1.map vb) ∧ Below w.heap.size w w'

theorem answers_err {k : Nat} {w w' : World} (h : Below w.heap.size w w') : Answers ([], 0, k) w (.returned (.tuple #[.slice none 0 0, .int .i64 0, .int .i64 (k : Int)])) w' :=
  ⟨_, rfl, World.ownsRow_nil _ _ _ _, h⟩

set_option maxHeartbeats 1000000 in
set_option maxRecDepth 100000 in
theorem read_any (bs : List UInt8) (A : Option Addr) (c : Nat) (at_ : Int) (w : World) (hr : Reads w w.heap.size A (bs.map vb)) (hc : bs.length ≤ c) (hl : bs.length ≤ 9223372036854775807) :
    Calls Try.prog 29 #[.slice A bs.length c, .int .i64 at_] w (Answers (readAt bs at_) w) := by
  have hg := get_any bs A c at_ w _ hr hc hl
  have hrange := getAt_range bs at_ hl
  obtain ⟨n, f, e, hv⟩ : ∃ n f e, getAt bs at_ = (n, f, e) := ⟨_, _, _, rfl⟩
  have hR : readAt bs at_ = if e ≠ 0 then ([], 0, e) else if 65536 < n then ([], 0, 4) else if (bs.length : Int) - f < n + 4 then ([], 0, 5)
      else if num4 ((bs.drop (f.toNat + n)).take 4) ≠ sum ((bs.drop f.toNat).take n) then ([], 0, 7) else ((bs.drop f.toNat).take n, f + n + 4, 0) := by
    unfold readAt; rw [hv]
  rw [hv] at hg hrange
  obtain ⟨hr1, hr2, hr3, hr4⟩ := hrange
  simp only at hr1 hr2 hr3 hr4
  obtain ⟨f, rfl⟩ := Int.eq_ofNat_of_zero_le hr2
  have HG := Lib.hid hg
  have HN := Lib.hid hr1
  clear hg hv hr1 hr2
  rcases Nat.eq_zero_or_pos e with he | he
  · subst he
    rw [if_neg (by simp)] at hR
    rcases Nat.lt_or_ge 65536 n with hn | hn
    · rw [if_pos hn] at hR
      rw [hR]
      clear hR
      go_enter Try.func29, Try.ntmps29
      go_wp2_with (go_at_call 18; go_must (refine HG.out.mono ?_); rintro e w' ⟨rfl, rfl⟩; simp only [getV])
      go_ret3
      exact answers_err (Below.refl _ _)
    · rw [if_neg (by omega)] at hR
      rcases Nat.lt_or_ge bs.length (f + n + 4) with hs | hs
      · rw [if_pos (by omega)] at hR
        rw [hR]
        clear hR
        go_enter Try.func29, Try.ntmps29
        go_wp2_with (go_at_call 18; go_must (refine HG.out.mono ?_); rintro e w' ⟨rfl, rfl⟩; simp only [getV])
        go_ret3
        exact answers_err (Below.refl _ _)
      · rw [if_neg (by omega)] at hR
        obtain ⟨b, off, rfl, hb, hcell⟩ := hr.at_ (k := 0) (by simp; omega)
        have c0 := Reads.byte hcell (k := f + n) (by omega)
        have c1 := Reads.byte hcell (k := f + n + 1) (by omega)
        have c2 := Reads.byte hcell (k := f + n + 2) (by omega)
        have c3 := Reads.byte hcell (k := f + n + 3) (by omega)
        have h4 : (bs.drop (f + n)).take 4 = [bs[f + n], bs[f + n + 1], bs[f + n + 2], bs[f + n + 3]] := by
          rw [drop_cons (by omega), drop_cons (k := f + n + 1) (by omega), drop_cons (k := f + n + 1 + 1) (by omega), drop_cons (k := f + n + 1 + 1 + 1) (by omega)]
          rfl
        rw [show ((f : Int)).toNat = f from Int.toNat_natCast f, h4] at hR
        clear hcell h4
        generalize bs[f + n] = x0 at c0 hR
        generalize bs[f + n + 1] = x1 at c1 hR
        generalize bs[f + n + 2] = x2 at c2 hR
        generalize bs[f + n + 3] = x3 at c3 hR
        have b0 : x0.toNat ≤ 255 := by have := UInt8.toNat_lt x0; omega
        have b1 : x1.toNat ≤ 255 := by have := UInt8.toNat_lt x1; omega
        have b2 : x2.toNat ≤ 255 := by have := UInt8.toNat_lt x2; omega
        have b3 : x3.toNat ≤ 255 := by have := UInt8.toNat_lt x3; omega
        have ho := or4 x0 x1 x2 x3
        have hlp : ((bs.drop f).take n).length = n := by simp; omega
        have hrp : Reads w w.heap.size (some ⟨b, off + f, none⟩) (((bs.drop f).take n).map vb) := by
          rw [List.map_take, List.map_drop]
          refine Reads.take ?_ n
          have h := hr.cut (k := f) (cap := c) (by simpa using hc)
          rw [if_neg (by omega)] at h
          simpa [Addr.add_lit] using h
        have hsum := fun W => sum1 ((bs.drop f).take n) (some ⟨b, off + f, none⟩) (c - f) w.heap.size W
        rw [hlp] at hsum
        have HSum := Lib.hid hsum
        have Hrp := Lib.hid hrp
        generalize (bs.drop f).take n = p at HSum Hrp hlp hR
        have Hlp := Lib.hid hlp
        have HB := Lib.hid hb
        generalize num4 [x0, x1, x2, x3] = s at ho hR
        have hcf : ¬ c = f := by omega
        clear hsum hrp hlp hr hb
        by_cases hst : s = sum p
        · subst hst
          rw [if_neg (by simp)] at hR
          rw [hR]
          clear hR
          have hne : ((sum p : Int) != (sum p : Int)) = false := by simp
          go_enter Try.func29, Try.ntmps29
          go_wp2_with (go_at_call 18; go_must (refine HG.out.mono ?_); rintro e w' ⟨rfl, rfl⟩; simp only [getV])
          go_quiet (fail)
          go_wp2_with fail
          refine (HSum.out ((w.drewN nq).alloc (.cells #[.slice (some ⟨b, off + f, none⟩) n (c - f)] 24)) (w.heap.size + 1) (cell_new (w.drewN nq) _ _) (by omega) (((Hrp.out.drewN nq).alloc (by simp) _).more (by omega)) (by have := Hlp.out; omega)).mono ?_
          rintro e w' ⟨rfl, rfl⟩
          go_wp2_with (at_builtin; go_must (refine app rowByte rfl _ _ rfl w.heap.size _ _ _ rfl (World.ownsRow_nil _ _ _ _) w.heap.size _ _ _ (p.map vb) rfl (by simpa using Hlp.out) (by exact (Hrp.out.drewN nq).alloc (by simp) _) (oneCell_vb _) (by omega) (by simp) ?_))
          intro v2 w2 hown2 hg2
          have hb2 : Below w.heap.size w w2 := hg2.below (((below_drewN (Below.refl w.heap.size w)).alloc (by simp) _)) (World.ownsRow_nil _ _ 5 _) (by simp)
          clear hg2
          go_wp2
          go_ret3
          refine ⟨_, rfl, ?_, hb2⟩
          have := Hlp.out
          simp only
          rw [this]
          exact hown2
        · rw [if_pos hst] at hR
          rw [hR]
          clear hR
          have hne : ((s : Int) != (sum p : Int)) = true := by simp; omega
          clear hst
          go_enter Try.func29, Try.ntmps29
          go_wp2_with (go_at_call 18; go_must (refine HG.out.mono ?_); rintro e w' ⟨rfl, rfl⟩; simp only [getV])
          go_quiet (fail)
          go_wp2_with fail
          refine (HSum.out ((w.drewN nq).alloc (.cells #[.slice (some ⟨b, off + f, none⟩) n (c - f)] 24)) (w.heap.size + 1) (cell_new (w.drewN nq) _ _) (by omega) (((Hrp.out.drewN nq).alloc (by simp) _).more (by omega)) (by have := Hlp.out; omega)).mono ?_
          rintro e w' ⟨rfl, rfl⟩
          go_wp2_with fail
          go_ret3
          exact answers_err ((below_drewN (Below.refl w.heap.size w)).alloc (by simp) _)
  · rw [if_pos (by omega)] at hR
    rw [hR]
    have hne : ((e : Int) != 0) = true := by simp; omega
    clear hR he
    go_enter Try.func29, Try.ntmps29
    go_wp2_with (go_at_call 18; go_must (refine HG.out.mono ?_); rintro e' w' ⟨rfl, rfl⟩; simp only [getV])
    go_ret3
    exact answers_err (Below.refl _ _)
end Go.Proofs.Ytjbachplnkonkaa
