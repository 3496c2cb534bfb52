/- FrameWhole: the walk of the law. -/
import Derived.Test.YtjbachplnkonkaaAwake2
namespace Go.Proofs.Ytjbachplnkonkaa
set_option linter.unusedVariables false
open Go.RowKit
open Varm Frm

set_option maxRecDepth 100000 in
theorem fwhole_long (p : List UInt8) (A : Option Addr) (c : Nat) (s : List UInt8) (A2 : Option Addr) (c2 : Nat) (bit : Int) (w : World) (hr : Reads w w.heap.size A (p.map vb)) (hp : 65536 < p.length) (hl : p.length ≤ 1048576) :
    Calls Try.prog 11 #[.slice A p.length c, .slice A2 s.length c2, .int .u16 bit] w fun e w' => e = .returned (.bool true) ∧ Below w.heap.size w w' := by
  have hR : frameR p = ([], 4) := if_pos hp
  go_enter Try.func11, Try.ntmps11
  go_wp2_with fail
  refine (awake2_any _).mono ?_
  rintro e w1 ⟨rfl, hb1⟩
  have hs1 := hb1.size
  have h1 := frame_any p A c w1 ((hr.below hb1).more hs1) (by omega)
  rw [hR] at h1
  have H1 := Lib.hid h1
  clear h1 hR
  go_wp2_with fail
  refine H1.out.mono ?_
  rintro e w2 ⟨v2, rfl, hown2, hb2⟩
  obtain ⟨A3, c3, rfl, -, -⟩ := own_slice hown2
  have HB := Lib.hid (hb1.trans (hb2.mono hs1))
  clear hown2 hb1 hb2
  go_wp2_with fail
  go_ret
  exact ⟨rfl, HB.out⟩

theorem turned_ne (x : UInt8) (k : Nat) : some (UInt8.ofNat (x.toNat ^^^ 2 ^ (k % 8))) ≠ some x := by
  intro h
  have hx := UInt8.toNat_lt x
  have hp : 2 ^ (k % 8) < 2 ^ 8 := Nat.pow_lt_pow_right (by omega) (by omega)
  have hlt : x.toNat ^^^ 2 ^ (k % 8) < 2 ^ 8 := Nat.xor_lt_two_pow hx hp
  injection h with h
  have h2 := congrArg UInt8.toNat h
  rw [UInt8.toNat_ofNat', Nat.mod_eq_of_lt hlt] at h2
  have h3 := xor_lc (a := 2 ^ (k % 8)) (b := 0) (c := x.toNat) (by rw [h2, Nat.xor_zero])
  have := Nat.pow_pos (n := k % 8) (show 0 < 2 by omega)
  omega

theorem bit_turned (x : UInt8) (k : Nat) : Value.int .u8 (bits .xor .u8 (x.toNat : Int) (2 ^ (k % 8) % 256)) = vb (UInt8.ofNat (x.toNat ^^^ 2 ^ (k % 8))) := by
  have hx := UInt8.toNat_lt x
  have hp : 2 ^ (k % 8) < 2 ^ 8 := Nat.pow_lt_pow_right (by omega) (by omega)
  have hlt : x.toNat ^^^ 2 ^ (k % 8) < 2 ^ 8 := Nat.xor_lt_two_pow hx hp
  have h := u8_xor_nat x.toNat (2 ^ (k % 8)) (by omega) (by omega)
  have e : ((2 : Int) ^ (k % 8) % 256) = ((2 ^ (k % 8) : Nat) : Int) := by
    have e1 : ((2 : Int) ^ (k % 8)) = ((2 ^ (k % 8) : Nat) : Int) := (Int.natCast_pow 2 (k % 8)).symm
    rw [e1]
    generalize 2 ^ (k % 8) = q at hp
    omega
  rw [vb, UInt8.toNat_ofNat', Nat.mod_eq_of_lt hlt, ← h]
  exact congrArg (fun z => Value.int .u8 (bits .xor .u8 (x.toNat : Int) z)) e

set_option maxHeartbeats 4000000 in
set_option maxRecDepth 100000 in
theorem fwhole_in (p : List UInt8) (A : Option Addr) (c : Nat) (s : List UInt8) (A2 : Option Addr) (c2 : Nat) (bit : Nat) (w : World) (hr : Reads w w.heap.size A (p.map vb)) (hr2 : Reads w w.heap.size A2 (s.map vb)) (hp : p.length ≤ 65536) (hc2 : s.length ≤ c2) (hl : s.length ≤ 1048576) (hbit : bit ≤ 65535) :
    Calls Try.prog 11 #[.slice A p.length c, .slice A2 s.length c2, .int .u16 bit] w fun e w' => e = .returned (.bool true) ∧ Below w.heap.size w w' := by
  have hR : frameR p = (frame p, 0) := if_neg (by omega)
  have HFL := Lib.hid (frame_length p)
  have ho1 := one_pos p.length
  have ho2 := one_len p.length (by omega)
  have hf1 : (frame p).length ≤ 65550 := by have := HFL.out; omega
  have hf2 : p.length + 5 ≤ (frame p).length := by have := HFL.out; omega
  go_enter Try.func11, Try.ntmps11
  go_wp2_with fail
  refine (awake2_any _).mono ?_
  rintro e w1 ⟨rfl, hb1⟩
  have hs1 := hb1.size
  have h1 := frame_any p A c w1 ((hr.below hb1).more hs1) (by omega)
  rw [hR] at h1
  have H1 := Lib.hid h1
  clear h1 hR
  go_wp2_with fail
  refine H1.out.mono ?_
  rintro e w2 ⟨v2, rfl, hown2, hb2⟩
  obtain ⟨A3, c3, rfl, hc3, -⟩ := own_slice hown2
  have hs2 := hb2.size
  have hr22 := (hr2.below hb1).below (hb2.mono hs1)
  have hr12 := (hr.below hb1).below (hb2.mono hs1)
  have hb02 := hb1.trans (hb2.mono hs1)
  go_wp2_with (at_builtin; go_must (refine app rowByte rfl _ _ rfl w2.heap.size _ _ _ rfl (World.ownsRow_nil _ _ _ _) w.heap.size _ _ _ (s.map vb) rfl (by simp) (by exact hr22) (oneCell_vb _) (by omega) (Nat.le_refl _) ?_))
  intro v3 w3 hown3 hg3
  have hb3 : Below w2.heap.size w2 w3 := hg3.below (Below.refl _ _) (World.ownsRow_nil _ _ 5 _) (Nat.le_refl _)
  have hs3 := hb3.size
  have hrb3 := (Reads.of_own hown2).below hb3
  go_wp2_with (at_builtin; go_must (refine app rowByte rfl _ _ rfl w2.heap.size _ _ _ rfl (by exact hown3) w2.heap.size _ _ _ ((frame p).map vb) rfl (by simp) (by exact hrb3) (oneCell_vb _) (by omega) (by omega) ?_))
  intro v4 w4 hown4 hg4
  have hb4 : Below w2.heap.size w2 w4 := hg4.below hb3 hown3 hs3
  have hs4 := hb4.size
  have hr4 := hr22.below (hb4.mono (by omega))
  go_wp2_with (at_builtin; go_must (refine app rowByte rfl _ _ rfl w2.heap.size _ _ _ rfl (by exact hown4) w.heap.size _ _ _ (s.map vb) rfl (by simp) (by exact hr4) (oneCell_vb _) (by omega) (by omega) ?_))
  intro v5 w5 hown5 hg5
  have hb5 : Below w2.heap.size w2 w5 := hg5.below hb4 hown4 hs4
  have hs5 := hb5.size
  rw [← List.map_append, ← List.map_append] at hown5
  have hlen : (s ++ (frame p ++ s)).length = s.length + (frame p).length + s.length := by simp; omega
  rw [← hlen] at hown5
  have hval := readAt_frame s p s hp
  generalize s ++ (frame p ++ s) = all at hown5 hlen hval
  obtain ⟨A5, c5, rfl, hc5, -⟩ := own_slice hown5
  have hread := read_any all A5 c5 s.length w5 (Reads.of_own hown5) hc5 (by omega)
  rw [hval] at hread
  have HR := Lib.hid hread
  have HL := Lib.hid hlen
  have hown25 := own_past hown2 hb5 (Nat.le_refl _)
  have hr15 := hr12.below (hb5.mono (by omega))
  have hb05 := hb02.trans (hb5.mono (by omega))
  clear hown3 hg3 hown4 hg4 hg5 hlen hread hval hown5 hown2 hrb3 hr4 hr22 hr12 hb02 hb1 hb2 hb3 hb4 hb5 hr hr2
  go_wp2_with fail
  refine HR.out.mono ?_
  rintro e w6 ⟨v6, rfl, hown6, hb6⟩
  obtain ⟨A6, c6, rfl, -, -⟩ := own_slice hown6
  have hs6 := hb6.size
  have hown26 := own_past hown25 hb6 (Nat.le_refl _)
  have hstr1 := run_str (c := c6) (Reads.of_own hown6) rfl
  have hstr2 := run_str (c := c) (hr15.below (hb6.mono (by omega))) rfl
  have hx1 : (p != p) = false := by simp
  have hx2 : ((s.length : Int) + (frame p).length != (s.length : Int) + (frame p).length) = false := by simp
  have hb06 := hb05.trans (hb6.mono (by omega))
  clear hown6 hown25 hr15 hb6 hb05
  go_wp2_with fail
  clear hstr1 hstr2
  go_loopw [12] (fun i wr => ∃ k : Nat, k ≤ 131100 ∧ i = .int .i64 k ∧ wr.ownsRow (w1.heap.size) 5 1 (.slice A3 (frame p).length c3) (frame p).length ((frame p).map vb) ∧ Below w.heap.size w wr) (fun i _ => (frame p).length - (intOf i).toNat)
  case atStart => exact ⟨0, Nat.zero_le _, rfl, hown26, hb06⟩
  case round =>
    obtain ⟨k, hk, rfl, hownr, hbr⟩ := hrel
    have hsr := hbr.size
    rcases Nat.lt_or_ge k (frame p).length with hlt | hge
    · have hg := read_any ((frame p).take k) A3 c3 0 wr (by rw [List.map_take]; exact (Reads.of_own hownr).take k) (by rw [List.length_take]; omega) (by rw [List.length_take]; omega)
      have hgl : ((frame p).take k).length = k := by rw [List.length_take]; omega
      rw [readAt_short p hp k hlt, hgl] at hg
      have HG := Lib.hid hg
      clear hg hgl
      go_wp2_with fail
      refine HG.out.mono ?_
      rintro e w7 ⟨v7, rfl, hown7, hb7⟩
      obtain ⟨A7, c7, rfl, -, -⟩ := own_slice hown7
      have hownr7 := own_past hownr hb7 (Nat.le_refl _)
      have hbr7 := hbr.trans (hb7.mono hsr)
      clear hown7 hb7 hownr hbr
      go_wp2_with fail
      go_roundw
      case rel => exact ⟨k + 1 + (frame p).length / 50, by omega, by go_num, hownr7, hbr7⟩
      case measure => simp [intOf]; omega
    · clear hown26 hb06
      obtain ⟨j, hj, hjlt⟩ : ∃ j : Nat, ((bit : Int) / 8 % ((p.length : Int) + 4)) = (j : Int) ∧ j < p.length + 4 := by
        refine ⟨bit / 8 % (p.length + 4), by rw [Int.natCast_emod, Int.natCast_add, Int.natCast_ediv]; rfl, Nat.mod_lt _ (by omega)⟩
      obtain ⟨g, hA3, hg1, hg2, hfz, hcell, hset⟩ := own_store hownr (by omega)
      subst hA3
      have hJ : (frame p).length - p.length - 4 + j < (frame p).length := by omega
      have hJ2 : (frame p).length - p.length - 4 + j = (one p.length).length + j := by have := HFL.out; omega
      have c1 := hcell _ hJ
      rw [List.getElem?_map, List.getElem?_eq_getElem hJ, Option.map_some] at c1
      have f1 := hfz ((frame p).length - p.length - 4 + j)
      have hxe : (frame p)[(one p.length).length + j]? = some ((frame p)[(frame p).length - p.length - 4 + j]'hJ) := by
        rw [← hJ2]; exact List.getElem?_eq_getElem hJ
      obtain ⟨y, hy⟩ : ∃ y : UInt8, y = UInt8.ofNat (((frame p)[(frame p).length - p.length - 4 + j]'hJ).toNat ^^^ 2 ^ (bit % 8)) := ⟨_, rfl⟩
      have hset1 := (hset ((frame p).length - p.length - 4 + j) (vb y)).1
      rw [← List.map_set, hJ2] at hset1
      have hne : some y ≠ (frame p)[(one p.length).length + j]? := by
        rw [hxe, hy]
        exact turned_ne _ _
      have hval := bit_turned ((frame p)[(frame p).length - p.length - 4 + j]'hJ) bit
      rw [← hy] at hval
      have hrt := readAt_turned p hp j hjlt y hne
      have hrd := read_any ((frame p).set ((one p.length).length + j) y) (some ⟨g, 0, none⟩) c3 0 (wr.setCell ⟨g, (one p.length).length + j, none⟩ (vb y)) (by
        have h := hset1
        have hl' : (frame p).length = ((frame p).set ((one p.length).length + j) y).length := by simp
        rw [hl'] at h
        exact Reads.of_own h) (by simpa using hc3) (by simp; omega)
      rw [hrt, List.length_set, ← hJ2] at hrd
      have HRd := Lib.hid hrd
      have hbw : Below w.heap.size w (wr.setCell ⟨g, (one p.length).length + j, none⟩ (vb y)) := hbr.setCell (by simp only; omega) _
      rw [← hJ2] at hbw
      have HB := Lib.hid hbw
      generalize (frame p)[(frame p).length - p.length - 4 + j]'hJ = x at c1 hval
      have HJ2 := Lib.hid hJ2
      clear hset hcell hfz hownr hbr hset1 hne hrt hrd hbw hxe hy hJ hJ2
      go_wp2_with fail
      refine HRd.out.mono ?_
      rintro e w8 ⟨v8, rfl, hown8, hb8⟩
      obtain ⟨A8, c8, rfl, -, -⟩ := own_slice hown8
      have HB8 := Lib.hid (HB.out.trans (hb8.mono HB.out.size))
      clear hown8 hb8
      go_wp2_with fail
      go_ret
      exact ⟨rfl, HB8.out⟩

theorem fwhole_any (p : List UInt8) (A : Option Addr) (c : Nat) (s : List UInt8) (A2 : Option Addr) (c2 : Nat) (bit : Nat) (w : World) (hr : Reads w w.heap.size A (p.map vb)) (hr2 : Reads w w.heap.size A2 (s.map vb)) (hp : p.length ≤ 1048576) (hc2 : s.length ≤ c2) (hl : s.length ≤ 1048576) (hbit : bit ≤ 65535) :
    Calls Try.prog 11 #[.slice A p.length c, .slice A2 s.length c2, .int .u16 bit] w fun e w' => e = .returned (.bool true) ∧ Below w.heap.size w w' := by
  rcases Nat.lt_or_ge 65536 p.length with h | h
  · exact fwhole_long p A c s A2 c2 bit w hr h hp
  · exact fwhole_in p A c s A2 c2 bit w hr hr2 h hc2 hl hbit
end Go.Proofs.Ytjbachplnkonkaa
