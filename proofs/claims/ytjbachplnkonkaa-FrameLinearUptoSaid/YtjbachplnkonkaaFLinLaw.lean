/- FrameLinear: the walk of the law. -/
import Derived.Test.YtjbachplnkonkaaAwake2
import Derived.Test.YtjbachplnkonkaaFLinAid
import Derived.Test.YtjbachplnkonkaaFLinAid
import Derived.Deep.DrawnRows
import Derived.Deep.Cut
import Derived.Deep.DeepMust
import Derived.OwnWalk
namespace Go.Proofs.Ytjbachplnkonkaa
set_option linter.unusedVariables false
open Go.RowKit
open Varm Frm
attribute [local go_sem ↓] Go.wp_at_zero Go.wp_at_succ

/-- The first k bytes of the exclusive or; behind them nought. -/
def xorTo (a b c : List UInt8) (n k : Nat) : List UInt8 := (List.range n).map fun i => if i < k then a.getD i 0 ^^^ b.getD i 0 ^^^ c.getD i 0 else 0
theorem xorTo_len (a b c : List UInt8) (n k : Nat) : (xorTo a b c n k).length = n := by simp [xorTo]
theorem xorTo_succ (a b c : List UInt8) (n k : Nat) (h1 : k < a.length) (h2 : k < b.length) (h3 : k < c.length) : (xorTo a b c n k).set k (a[k] ^^^ b[k] ^^^ c[k]) = xorTo a b c n (k + 1) := by
  refine List.ext_getElem (by simp [xorTo]) fun j hj1 hj2 => ?_
  rw [List.getElem_set]
  simp only [xorTo, List.getElem_map, List.getElem_range]
  by_cases he : k = j
  · subst he
    rw [if_pos rfl, if_pos (by omega)]
    simp [List.getD, h1, h2, h3]
  · rw [if_neg he]
    by_cases hl : j < k
    · rw [if_pos hl, if_pos (by omega)]
    · rw [if_neg hl, if_neg (by omega)]
theorem xorTo_zero (a b c : List UInt8) (n : Nat) : xorTo a b c n 0 = List.replicate n 0 := by
  refine List.ext_getElem (by simp [xorTo]) fun j hj1 hj2 => ?_
  simp [xorTo]
theorem xorTo_all (a b c : List UInt8) (n : Nat) (h1 : n ≤ a.length) (h2 : n ≤ b.length) (h3 : n ≤ c.length) : sum (xorTo a b c n n) = sum (a.take n) ^^^ sum (b.take n) ^^^ sum (c.take n) := by
  rw [← sum_xor3 n (a.take n) (b.take n) (c.take n) (by simp; omega) (by simp; omega) (by simp; omega)]
  congr 1
  refine List.map_congr_left fun i hi => ?_
  have hi : i < n := by simpa using hi
  rw [if_pos hi]
  have h : ∀ l : List UInt8, l.getD i 0 = (l.take n).getD i 0 := fun l => by simp [List.getD, hi]
  rw [h a, h b, h c]
theorem xor3_val (x y z : UInt8) : bits .xor .u8 (bits .xor .u8 (x.toNat : Int) (y.toNat : Int)) (z.toNat : Int) = ((x ^^^ y ^^^ z).toNat : Int) := by
  have hx := x.toNat_lt
  have hy := y.toNat_lt
  have hz := z.toNat_lt
  have hxy : x.toNat ^^^ y.toNat < 2 ^ 8 := Nat.xor_lt_two_pow hx hy
  rw [u8_xor_nat x.toNat y.toNat hx hy, u8_xor_nat _ z.toNat hxy hz, UInt8.toNat_xor, UInt8.toNat_xor]
theorem madeBytes' (n : Nat) : (madeCells #[Value.int .u8 0] n).toList = (List.replicate n (0 : UInt8)).map vb := by
  refine List.ext_getElem? fun j => ?_
  simp only [madeCells, List.getElem?_map, List.getElem?_replicate, Array.getElem?_toList, Array.getElem?_map, Array.getElem?_range]
  split <;> simp [Nat.mod_one]

/-- The slots that the last region writes. -/
def dstsL : List (Option Nat) := (List.range 38).map (fun j => some (43 + j)) ++ [some 6]
/-- What the last region's operations wait for; what their slots hold. -/
def waitsL : List (List Nat) := [[], [0], [1], [], [], [3, 4], [5], [6, 2], [], [], [8, 9], [10], [11, 7], [7, 12], [], [], [14, 15], [16], [17, 12], [13, 18], [2, 19], [20, 18], [21], [21], [21], [22, 23, 24, 21], [25, 21, 21], [21], [21], [27, 28, 26, 21], [21], [29, 30, 29, 21], [21], [31, 32, 31, 21], [33, 21], [34, 33, 21], [26, 35, 21], [21, 36], [37, 35, 0, 1, 2, 3, 4, 5, 6, 7, 8, 9, 10, 11, 12, 13, 14, 15, 16, 17, 18, 19, 20, 21, 22, 23, 24, 25, 26, 27, 28, 29, 30, 31, 32, 33, 34, 35, 36, 37]]
theorem waitsLow : ∀ i, ∀ k ∈ waitsL.getD i [], k < i := by
  intro i
  rcases Nat.lt_or_ge i 39 with h | h
  · exact (by decide : ∀ i, i < 39 → ∀ k ∈ waitsL.getD i [], k < i) i h
  · intro k hk
    rw [List.getD, List.getElem?_eq_none (by show 39 ≤ i; exact h)] at hk
    cases hk
def knows (a b c : List UInt8) (A1 A2 A3 : Option Addr) (c1 c2 c3 g n : Nat) : List Knows := [
  .eq (.slice (some ⟨g, 0, none⟩) n n),
  .cells 2 1 [.slice (some ⟨g, 0, none⟩) n n],
  .eq (.int .u32 (sum (xorTo a b c n n))),
  .eq (.slice A1 a.length c1),
  .eq (.int .i64 n),
  .eq (.slice A1 n c1),
  .cells 7 1 [.slice A1 n c1],
  .eq (.int .u32 (sum (a.take n))),
  .eq (.slice A2 b.length c2),
  .eq (.int .i64 n),
  .eq (.slice A2 n c2),
  .cells 12 1 [.slice A2 n c2],
  .eq (.int .u32 (sum (b.take n))),
  .eq (.int .u32 ((sum (a.take n) ^^^ sum (b.take n) : Nat) : Int)),
  .eq (.slice A3 c.length c3),
  .eq (.int .i64 n),
  .eq (.slice A3 n c3),
  .cells 18 1 [.slice A3 n c3],
  .eq (.int .u32 (sum (c.take n))),
  .eq (.int .u32 ((sum (a.take n) ^^^ sum (b.take n) ^^^ sum (c.take n) : Nat) : Int)),
  .eq (.bool true),
  .eq (.bool true),
  .eq (.slice A1 a.length c1),
  .eq (.slice A2 b.length c2),
  .eq (.slice A3 c.length c3),
  .cells 26 4 [.slice A1 a.length c1, .slice A2 b.length c2, .slice none 0 0, .slice A3 c.length c3],
  .eq (.int .u32 (sum (a ++ b ++ c))),
  .row 29 5 0 [],
  .eq (.slice A1 a.length c1),
  .row 31 5 (0 + a.length) ([] ++ a.map vb),
  .eq (.slice A2 b.length c2),
  .row 33 5 (0 + a.length + b.length) ([] ++ a.map vb ++ b.map vb),
  .eq (.slice A3 c.length c3),
  .row 34 5 (0 + a.length + b.length + c.length) ([] ++ a.map vb ++ b.map vb ++ c.map vb),
  .boxed 35 5 (0 + a.length + b.length + c.length) ([] ++ a.map vb ++ b.map vb ++ c.map vb),
  .eq (.int .u32 (sum (a ++ b ++ c))),
  .eq (.bool true),
  .eq (.bool true),
  .eq (.bool true)]

theorem knows_readers {a b c : List UInt8} {A1 A2 A3 : Option Addr} {c1 c2 c3 g n : Nat} : readers (knows a b c A1 A2 A3 c1 c2 c3 g n) = [(1, 2), (6, 7), (11, 12), (17, 18), (25, 26), (27, 29), (29, 31), (31, 33), (33, 34), (34, 35)] := rfl
/-- At an append all slots but the row's own have been read. -/
theorem dead_of {a b c : List UInt8} {A1 A2 A3 : Option Addr} {c1 c2 c3 g n i j : Nat} {kn : Knows} {L : Nat → Bool} (h3 : i = 29 ∨ i = 31 ∨ i = 33) (hdep : ∀ k ∈ waitsL.getD i [], L k = true) (hcl : ∀ j, L j = true → ∀ k ∈ waitsL.getD j [], L k = true) (hL : L i = false)
    (hj : j ≠ i) (hLj : L j = true) (hT : (knows a b c A1 A2 A3 c1 c2 c3 g n)[j]? = some kn) : ∀ k, kn.reader = some k → ran L i k = true := by
  intro k hk
  have hm := mem_readers hT hk
  rw [knows_readers] at hm
  have d31 : L 31 = true → L 29 = true := fun h => hcl 31 h 29 (by decide)
  have d33 : L 33 = true → L 31 = true := fun h => hcl 33 h 31 (by decide)
  have d34 : L 34 = true → L 33 = true := fun h => hcl 34 h 33 (by decide)
  have d29 : L 29 = true → L 26 = true := fun h => hcl 29 h 26 (by decide)
  have l26 : L 26 = true := by
    rcases h3 with rfl | rfl | rfl
    · exact hdep 26 (by decide)
    · exact d29 (hdep 29 (by decide))
    · exact d29 (d31 (hdep 31 (by decide)))
  have l21 : L 21 = true := hcl 26 l26 21 (by decide)
  have l18 : L 18 = true := hcl 21 l21 18 (by decide)
  have l12 : L 12 = true := hcl 18 l18 12 (by decide)
  have l7 : L 7 = true := hcl 12 l12 7 (by decide)
  have l2 : L 2 = true := hcl 7 l7 2 (by decide)
  simp only [List.mem_cons, Prod.mk.injEq, List.not_mem_nil, or_false] at hm
  rcases hm with ⟨rfl, rfl⟩ | ⟨rfl, rfl⟩ | ⟨rfl, rfl⟩ | ⟨rfl, rfl⟩ | ⟨rfl, rfl⟩ | ⟨rfl, rfl⟩ | ⟨rfl, rfl⟩ | ⟨rfl, rfl⟩ | ⟨rfl, rfl⟩ | ⟨rfl, rfl⟩
  · exact ran_old l2
  · exact ran_old l7
  · exact ran_old l12
  · exact ran_old l18
  · exact ran_old l26
  · rcases h3 with rfl | rfl | rfl
    · exact ran_self
    · exact ran_old (hdep 29 (by decide))
    · exact ran_old (d31 (hdep 31 (by decide)))
  · rcases h3 with rfl | rfl | rfl
    · exact absurd rfl hj
    · exact ran_self
    · exact ran_old (hdep 31 (by decide))
  · rcases h3 with rfl | rfl | rfl
    · rw [d31 hLj] at hL; cases hL
    · exact absurd rfl hj
    · exact ran_self
  · rcases h3 with rfl | rfl | rfl
    · rw [d31 (d33 hLj)] at hL; cases hL
    · rw [d33 hLj] at hL; cases hL
    · exact absurd rfl hj
  · rcases h3 with rfl | rfl | rfl
    · rw [d31 (d33 (d34 hLj))] at hL; cases hL
    · rw [d33 (d34 hLj)] at hL; cases hL
    · rw [d34 hLj] at hL; cases hL

set_option maxHeartbeats 1000000 in
set_option maxRecDepth 100000 in
theorem flin_any (a b c : List UInt8) (A1 A2 A3 : Option Addr) (c1 c2 c3 : Nat) (w : World) (h1 : Reads w w.heap.size A1 (a.map vb)) (h2 : Reads w w.heap.size A2 (b.map vb)) (h3 : Reads w w.heap.size A3 (c.map vb))
    (hc1 : a.length ≤ c1) (hc2 : b.length ≤ c2) (hc3 : c.length ≤ c3) (hl1 : a.length ≤ 1048576) (hl2 : b.length ≤ 1048576) (hl3 : c.length ≤ 1048576) :
    Calls Try.prog 13 #[.slice A1 a.length c1, .slice A2 b.length c2, .slice A3 c.length c3] w fun e w' => e = .returned (.bool true) ∧ Below w.heap.size w w' := by
  go_enter Try.func13, Try.ntmps13
  go_wp2_with fail
  refine (awake2_any _).mono ?_
  rintro e w1 ⟨rfl, hb1⟩
  have hs1 := hb1.size
  go_upto_region 3 with (fail)
  go_cut [7] from 10 (fun v wr => wr = w1 ∧ ∃ k : Nat, k ≤ a.length ∧ k ≤ b.length ∧ k ≤ c.length ∧ v = .int .i64 k)
  case first =>
    go_wp2
    all_goals
      go_meet
      case rel => exact ⟨rfl, _, by omega, by omega, by omega, rfl⟩
  case rest =>
    obtain ⟨rfl, n, hn1, hn2, hn3, rfl⟩ := hcut
    have hown := World.ownsRow_nil
    obtain ⟨i, hi, hz1, hz2, hz3⟩ := info_parts infoByte
    go_wp2_with (at_make; go_must (refine wpList_make_full _ rfl _ _ _ rfl w.heap.size 5 i _ 1 Try.underlying24 hi hz1 hz2 _ _ _ _ n rfl rfl (by omega) (by omega) (by rw [hz3]; omega) (by unfold maxLen; omega) hs1 ?_))
    intro w2 hown2 hg2
    have hb2 := hb1.grown hg2 hs1 (fun j hj => by cases hj)
    have hs2 := hb2.size
    go_wp2_with fail
    have hg : w.heap.size ≤ wc.heap.size := hs1
    rw [madeBytes'] at hown2
    have hx0 : List.replicate n (0 : UInt8) = xorTo a b c n 0 := (xorTo_zero a b c n).symm
    rw [hx0] at hown2
    clear hx0 hg2
    go_loopw [9] (fun v wr => ∃ k : Nat, k ≤ n ∧ v = .int .i64 k ∧ wr.ownsRow w.heap.size 5 1 (.slice (some ⟨wc.heap.size, 0, none⟩) n n) n ((xorTo a b c n k).map vb) ∧ Below w.heap.size w wr) (fun v _ => n - (intOf v).toNat)
    case atStart => exact ⟨0, Nat.zero_le _, rfl, hown2, hb2⟩
    case round =>
      obtain ⟨k, hk, rfl, hown, hbr⟩ := hrel
      have hsr := hbr.size
      clear hown2 hb2
      rcases Nat.lt_or_ge k n with hlt | hge
      · obtain ⟨b1, off1, rfl, _, hcell1⟩ := (h1.below hbr).at_ (k := k) (by simp; omega)
        obtain ⟨b2, off2, rfl, _, hcell2⟩ := (h2.below hbr).at_ (k := k) (by simp; omega)
        obtain ⟨b3, off3, rfl, _, hcell3⟩ := (h3.below hbr).at_ (k := k) (by simp; omega)
        have d1 := Reads.byte hcell1 (show k < a.length by omega)
        have d2 := Reads.byte hcell2 (show k < b.length by omega)
        have d3 := Reads.byte hcell3 (show k < c.length by omega)
        obtain ⟨g, hA, hbg, hg2, hfz, hcl, hst⟩ := own_store hown (by omega)
        injection hA with hA
        injection hA with hA
        have e2 := hfz k
        have e1 := hcl k (by omega)
        rw [List.getElem?_map, List.getElem?_eq_getElem (by simp [xorTo]; omega), Option.map_some] at e1
        have HS := Lib.hid (xorTo_succ a b c n k (by omega) (by omega) (by omega))
        subst hA
        have HRow := Lib.hid ((hst k (vb (a[k] ^^^ b[k] ^^^ c[k]))).1.drew)
        have HB : Hid (Below w.heap.size w (wr.setCell ⟨wc.heap.size, k, none⟩ (vb (a[k] ^^^ b[k] ^^^ c[k]))).drew) := Lib.hid (hbr.setCell hbg _).drew
        have ib1 : (k : Int) < (a.length : Int) := by omega
        have ib2 : (k : Int) < (b.length : Int) := by omega
        have ib3 : (k : Int) < (c.length : Int) := by omega
        have ib4 : (k : Int) < (n : Int) := by omega
        have HXV := Lib.hid (xor3_val a[k] b[k] c[k])
        clear hfz hcl hst hcell1 hcell2 hcell3 hown hbr h1 h2 h3
        generalize a[k] = x at d1 HS HRow HB HXV
        generalize b[k] = y at d2 HS HRow HB HXV
        generalize c[k] = z at d3 HS HRow HB HXV
        generalize (xorTo a b c n k)[k]'_ = q at e1
        go_wp2_with fail
        go_region
        go_wp2_with fail
        go_roundw
        case rel => exact ⟨k + 1, by omega, by go_num, by rw [HXV.out, ← HS.out, List.map_set]; exact HRow.out, by rw [HXV.out]; exact HB.out⟩
        case measure => simp [intOf]; omega
      · obtain rfl : n = k := by omega
        -- the last region
        go_wp2_with fail
        have hrx : Reads wr wr.heap.size (some ⟨wc.heap.size, 0, none⟩) ((xorTo a b c n n).map vb) := Reads.of_own hown
        have hra := (h1.below hbr).more hsr
        have hrb := (h2.below hbr).more hsr
        have hrc := (h3.below hbr).more hsr
        have hr1 : Reads wr wr.heap.size A1 ((a.take n).map vb) := by rw [List.map_take]; exact hra.take n
        have hr2 : Reads wr wr.heap.size A2 ((b.take n).map vb) := by rw [List.map_take]; exact hrb.take n
        have hr3 : Reads wr wr.heap.size A3 ((c.take n).map vb) := by rw [List.map_take]; exact hrc.take n
        have hq1 : n ≤ c1 := by omega
        have hq2 : n ≤ c2 := by omega
        have hq3 : n ≤ c3 := by omega
        have hsame := xorTo_all a b c n hn1 hn2 hn3
        refine wp_region_slots (by kernel_rfl) (D := waitsL) (by kernel_rfl) waitsLow (knows a b c A1 A2 A3 c1 c2 c3 wc.heap.size n) wr.heap.size (Nat.le_refl _) ?_ ?_
        · intro L a1 w1 i hi hL hdep hcl hI
          have hds := hI.dsts (l := dstsL) (by rfl) (by decide)
          have e0 := hI.olds (l := dstsL) (by rfl) 0 (by decide)
          have e1 := hI.olds (l := dstsL) (by rfl) 1 (by decide)
          have e2 := hI.olds (l := dstsL) (by rfl) 2 (by decide)
          have e7 := hI.olds (l := dstsL) (by rfl) 7 (by decide)
          have e8 := hI.olds (l := dstsL) (by rfl) 8 (by decide)
          have hsz := hI.fits (n := 81) rfl
          have HN := hds
          have hi39 : i < 39 := hi
          have hI0 : i = 0 ∨ i = 1 ∨ i = 2 ∨ i = 3 ∨ i = 4 ∨ i = 5 ∨ i = 6 ∨ i = 7 ∨ i = 8 ∨ i = 9 ∨ i = 10 ∨ i = 11 ∨ i = 12 ∨ i = 13 ∨ i = 14 ∨ i = 15 ∨ i = 16 ∨ i = 17 ∨ i = 18 ∨ i = 19 ∨ i = 20 ∨ i = 21 ∨ i = 22 ∨ i = 23 ∨ i = 24 ∨ i = 25 ∨ i = 26 ∨ i = 27 ∨ i = 28 ∨ i = 29 ∨ i = 30 ∨ i = 31 ∨ i = 32 ∨ i = 33 ∨ i = 34 ∨ i = 35 ∨ i = 36 ∨ i = 37 ∨ i = 38 := by omega
          rcases hI0 with rfl | rfl | rfl | rfl | rfl | rfl | rfl | rfl | rfl | rfl | rfl | rfl | rfl | rfl | rfl | rfl | rfl | rfl | rfl | rfl | rfl | rfl | rfl | rfl | rfl | rfl | rfl | rfl | rfl | rfl | rfl | rfl | rfl | rfl | rfl | rfl | rfl | rfl | rfl
          · -- 0
            exact wpOp_at rfl (wanted_none rfl) (wp_move rfl e8 (hI.putA HN rfl (hsz 43 (by decide)) rfl))
          · -- 1
            exact wpOp_at rfl (wanted_none rfl) (wp_val (r_one rfl (hI.get (j := 0) (d := 43) (hdep 0 (by decide)) rfl rfl)) (hI.putB HN hI.below.size rfl (hsz 44 (by decide)) rfl cells_made))
          · -- 2
            obtain ⟨g, hg, hgl, hcell⟩ := (hI.slots 1 44 _ (hdep 1 (by decide)) rfl rfl).resolve_left (fun h => Bool.noConfusion (hL.symm.trans h))
            exact wpOp_at rfl (wanted_none rfl) (wp_fn rfl hent (by rw [hg]; exact (sum1n (xorTo a b c n n) (some ⟨wc.heap.size, 0, none⟩) n n g w1 (xorTo_len a b c n n) (hcell 0 _ rfl) hgl (hrx.below hI.below |>.more hI.below.size) (by omega)).mono (by rintro e w2 ⟨rfl, rfl⟩; exact ⟨_, rfl, (hI.putA HN rfl (hsz 45 (by decide)) rfl)⟩)))
          · -- 3
            exact wpOp_at rfl (wanted_none rfl) (wp_move rfl e0 (hI.putA HN rfl (hsz 46 (by decide)) rfl))
          · -- 4
            exact wpOp_at rfl (wanted_none rfl) (wp_move rfl e7 (hI.putA HN rfl (hsz 47 (by decide)) rfl))
          · -- 5
            exact wpOp_at rfl (wanted_none rfl) (wp_val (r_cut rfl (hI.get (j := 3) (d := 46) (hdep 3 (by decide)) rfl rfl) (hI.get (j := 4) (d := 47) (hdep 4 (by decide)) rfl rfl) hq1) (hI.putA HN rfl (hsz 48 (by decide)) rfl))
          · -- 6
            exact wpOp_at rfl (wanted_none rfl) (wp_val (r_one rfl (hI.get (j := 5) (d := 48) (hdep 5 (by decide)) rfl rfl)) (hI.putB HN hI.below.size rfl (hsz 49 (by decide)) rfl cells_made))
          · -- 7
            obtain ⟨g, hg, hgl, hcell⟩ := (hI.slots 6 49 _ (hdep 6 (by decide)) rfl rfl).resolve_left (fun h => Bool.noConfusion (hL.symm.trans h))
            exact wpOp_at rfl (wanted_none rfl) (wp_fn rfl hent (by rw [hg]; exact (sum1n (a.take n) A1 c1 n g w1 (by rw [List.length_take]; omega) (hcell 0 _ rfl) hgl (hr1.below hI.below |>.more hI.below.size) (by omega)).mono (by rintro e w2 ⟨rfl, rfl⟩; exact ⟨_, rfl, (hI.putA HN rfl (hsz 50 (by decide)) rfl)⟩)))
          · -- 8
            exact wpOp_at rfl (wanted_none rfl) (wp_move rfl e1 (hI.putA HN rfl (hsz 51 (by decide)) rfl))
          · -- 9
            exact wpOp_at rfl (wanted_none rfl) (wp_move rfl e7 (hI.putA HN rfl (hsz 52 (by decide)) rfl))
          · -- 10
            exact wpOp_at rfl (wanted_none rfl) (wp_val (r_cut rfl (hI.get (j := 8) (d := 51) (hdep 8 (by decide)) rfl rfl) (hI.get (j := 9) (d := 52) (hdep 9 (by decide)) rfl rfl) hq2) (hI.putA HN rfl (hsz 53 (by decide)) rfl))
          · -- 11
            exact wpOp_at rfl (wanted_none rfl) (wp_val (r_one rfl (hI.get (j := 10) (d := 53) (hdep 10 (by decide)) rfl rfl)) (hI.putB HN hI.below.size rfl (hsz 54 (by decide)) rfl cells_made))
          · -- 12
            obtain ⟨g, hg, hgl, hcell⟩ := (hI.slots 11 54 _ (hdep 11 (by decide)) rfl rfl).resolve_left (fun h => Bool.noConfusion (hL.symm.trans h))
            exact wpOp_at rfl (wanted_none rfl) (wp_fn rfl hent (by rw [hg]; exact (sum1n (b.take n) A2 c2 n g w1 (by rw [List.length_take]; omega) (hcell 0 _ rfl) hgl (hr2.below hI.below |>.more hI.below.size) (by omega)).mono (by rintro e w2 ⟨rfl, rfl⟩; exact ⟨_, rfl, (hI.putA HN rfl (hsz 55 (by decide)) rfl)⟩)))
          · -- 13
            exact wpOp_at rfl (wanted_none rfl) (wp_val (r_xor rfl (hI.get (j := 7) (d := 50) (hdep 7 (by decide)) rfl rfl) (hI.get (j := 12) (d := 55) (hdep 12 (by decide)) rfl rfl) (sum_lt _) (sum_lt _)) (hI.putA HN rfl (hsz 56 (by decide)) rfl))
          · -- 14
            exact wpOp_at rfl (wanted_none rfl) (wp_move rfl e2 (hI.putA HN rfl (hsz 57 (by decide)) rfl))
          · -- 15
            exact wpOp_at rfl (wanted_none rfl) (wp_move rfl e7 (hI.putA HN rfl (hsz 58 (by decide)) rfl))
          · -- 16
            exact wpOp_at rfl (wanted_none rfl) (wp_val (r_cut rfl (hI.get (j := 14) (d := 57) (hdep 14 (by decide)) rfl rfl) (hI.get (j := 15) (d := 58) (hdep 15 (by decide)) rfl rfl) hq3) (hI.putA HN rfl (hsz 59 (by decide)) rfl))
          · -- 17
            exact wpOp_at rfl (wanted_none rfl) (wp_val (r_one rfl (hI.get (j := 16) (d := 59) (hdep 16 (by decide)) rfl rfl)) (hI.putB HN hI.below.size rfl (hsz 60 (by decide)) rfl cells_made))
          · -- 18
            obtain ⟨g, hg, hgl, hcell⟩ := (hI.slots 17 60 _ (hdep 17 (by decide)) rfl rfl).resolve_left (fun h => Bool.noConfusion (hL.symm.trans h))
            exact wpOp_at rfl (wanted_none rfl) (wp_fn rfl hent (by rw [hg]; exact (sum1n (c.take n) A3 c3 n g w1 (by rw [List.length_take]; omega) (hcell 0 _ rfl) hgl (hr3.below hI.below |>.more hI.below.size) (by omega)).mono (by rintro e w2 ⟨rfl, rfl⟩; exact ⟨_, rfl, (hI.putA HN rfl (hsz 61 (by decide)) rfl)⟩)))
          · -- 19
            exact wpOp_at rfl (wanted_none rfl) (wp_val (r_xor rfl (hI.get (j := 13) (d := 56) (hdep 13 (by decide)) rfl rfl) (hI.get (j := 18) (d := 61) (hdep 18 (by decide)) rfl rfl) (Nat.xor_lt_two_pow (n := 32) (sum_lt _) (sum_lt _)) (sum_lt _)) (hI.putA HN rfl (hsz 62 (by decide)) rfl))
          · -- 20
            exact wpOp_at rfl (wanted_none rfl) (wp_val (r_eql rfl (hI.get (j := 2) (d := 45) (hdep 2 (by decide)) rfl rfl) (hI.get (j := 19) (d := 62) (hdep 19 (by decide)) rfl rfl) hsame) (hI.putA HN rfl (hsz 63 (by decide)) rfl))
          · -- 21
            exact wpOp_at rfl (wanted_none rfl) (wp_move rfl (hI.get (j := 20) (d := 63) (hdep 20 (by decide)) rfl rfl) (hI.putA HN rfl (hsz 64 (by decide)) rfl))
          · -- 22
            exact wpOp_at rfl (wanted_true rfl rfl (hI.get (j := 21) (d := 64) (hdep 21 (by decide)) rfl rfl)) (wp_move rfl e0 (hI.putA HN rfl (hsz 65 (by decide)) rfl))
          · -- 23
            exact wpOp_at rfl (wanted_true rfl rfl (hI.get (j := 21) (d := 64) (hdep 21 (by decide)) rfl rfl)) (wp_move rfl e1 (hI.putA HN rfl (hsz 66 (by decide)) rfl))
          · -- 24
            exact wpOp_at rfl (wanted_true rfl rfl (hI.get (j := 21) (d := 64) (hdep 21 (by decide)) rfl rfl)) (wp_move rfl e2 (hI.putA HN rfl (hsz 67 (by decide)) rfl))
          · -- 25
            exact wpOp_at rfl (wanted_true rfl rfl (hI.get (j := 21) (d := 64) (hdep 21 (by decide)) rfl rfl)) (wp_val (r_four rfl (hI.get (j := 22) (d := 65) (hdep 22 (by decide)) rfl rfl) (hI.get (j := 23) (d := 66) (hdep 23 (by decide)) rfl rfl) (hI.get (j := 24) (d := 67) (hdep 24 (by decide)) rfl rfl) rfl) (hI.putB HN hI.below.size rfl (hsz 68 (by decide)) rfl cells_made))
          · -- 26
            obtain ⟨g, hg, hgl, hcell⟩ := (hI.slots 25 68 _ (hdep 25 (by decide)) rfl rfl).resolve_left (fun h => Bool.noConfusion (hL.symm.trans h))
            exact wpOp_at rfl (wanted_true rfl rfl (hI.get (j := 21) (d := 64) (hdep 21 (by decide)) rfl rfl)) (wp_fn rfl hent (by rw [hg]; exact (sum4 a b c A1 A2 A3 c1 c2 c3 g w1 hcell hgl (hra.below hI.below |>.more hI.below.size) (hrb.below hI.below |>.more hI.below.size) (hrc.below hI.below |>.more hI.below.size) (by omega) (by omega) (by omega)).mono (by rintro e w2 ⟨rfl, rfl⟩; exact ⟨_, rfl, (hI.putA HN rfl (hsz 69 (by decide)) rfl)⟩)))
          · -- 27
            exact wpOp_at rfl (wanted_true rfl rfl (hI.get (j := 21) (d := 64) (hdep 21 (by decide)) rfl rfl)) (wp_val (r_none rfl) (hI.putB HN hI.below.size rfl (hsz 70 (by decide)) rfl (.inr (own_none hI.below.size))))
          · -- 28
            exact wpOp_at rfl (wanted_true rfl rfl (hI.get (j := 21) (d := 64) (hdep 21 (by decide)) rfl rfl)) (wp_move rfl e0 (hI.putA HN rfl (hsz 71 (by decide)) rfl))
          · -- 29
            have hown : w1.ownsRow wr.heap.size 5 1 (a1.eval (.tmp 70)) 0 [] := (hI.slots 27 70 _ (hdep 27 (by decide)) rfl rfl).resolve_left (fun h => Bool.noConfusion (hL.symm.trans h))
            refine wpOp_at rfl (wanted_true rfl rfl (hI.get (j := 21) (d := 64) (hdep 21 (by decide)) rfl rfl)) (wp_app rowByte (.tmp 70) (.tmp 71) rfl _ _ _ _ rfl hown _ A1 a.length c1 (a.map vb) (hI.get (j := 28) (d := 71) (hdep 28 (by decide)) rfl rfl) (by simp) (hra.below hI.below) (oneCell_vb _) (by omega) hI.below.size (fun v2 w2 h2 h3 => hI.put HN rfl (hsz 72 (by decide)) (h3.below hI.below hown hI.below.size) rfl (.inr h2) ?_))
            intro j kn u hj hLj hT hh
            exact hh.dead (dead_of (by decide) hdep hcl hL hj hLj hT)
          · -- 30
            exact wpOp_at rfl (wanted_true rfl rfl (hI.get (j := 21) (d := 64) (hdep 21 (by decide)) rfl rfl)) (wp_move rfl e1 (hI.putA HN rfl (hsz 73 (by decide)) rfl))
          · -- 31
            have hown : w1.ownsRow wr.heap.size 5 1 (a1.eval (.tmp 72)) (0 + a.length) ([] ++ a.map vb) := (hI.slots 29 72 _ (hdep 29 (by decide)) rfl rfl).resolve_left (fun h => Bool.noConfusion (hL.symm.trans h))
            refine wpOp_at rfl (wanted_true rfl rfl (hI.get (j := 21) (d := 64) (hdep 21 (by decide)) rfl rfl)) (wp_app rowByte (.tmp 72) (.tmp 73) rfl _ _ _ _ rfl hown _ A2 b.length c2 (b.map vb) (hI.get (j := 30) (d := 73) (hdep 30 (by decide)) rfl rfl) (by simp) (hrb.below hI.below) (oneCell_vb _) (by omega) hI.below.size (fun v2 w2 h2 h3 => hI.put HN rfl (hsz 74 (by decide)) (h3.below hI.below hown hI.below.size) rfl (.inr h2) ?_))
            intro j kn u hj hLj hT hh
            exact hh.dead (dead_of (by decide) hdep hcl hL hj hLj hT)
          · -- 32
            exact wpOp_at rfl (wanted_true rfl rfl (hI.get (j := 21) (d := 64) (hdep 21 (by decide)) rfl rfl)) (wp_move rfl e2 (hI.putA HN rfl (hsz 75 (by decide)) rfl))
          · -- 33
            have hown : w1.ownsRow wr.heap.size 5 1 (a1.eval (.tmp 74)) (0 + a.length + b.length) ([] ++ a.map vb ++ b.map vb) := (hI.slots 31 74 _ (hdep 31 (by decide)) rfl rfl).resolve_left (fun h => Bool.noConfusion (hL.symm.trans h))
            refine wpOp_at rfl (wanted_true rfl rfl (hI.get (j := 21) (d := 64) (hdep 21 (by decide)) rfl rfl)) (wp_app rowByte (.tmp 74) (.tmp 75) rfl _ _ _ _ rfl hown _ A3 c.length c3 (c.map vb) (hI.get (j := 32) (d := 75) (hdep 32 (by decide)) rfl rfl) (by simp) (hrc.below hI.below) (oneCell_vb _) (by omega) hI.below.size (fun v2 w2 h2 h3 => hI.put HN rfl (hsz 76 (by decide)) (h3.below hI.below hown hI.below.size) rfl (.inr h2) ?_))
            intro j kn u hj hLj hT hh
            exact hh.dead (dead_of (by decide) hdep hcl hL hj hLj hT)
          · -- 34
            have hown : w1.ownsRow wr.heap.size 5 1 (a1.eval (.tmp 76)) (0 + a.length + b.length + c.length) ([] ++ a.map vb ++ b.map vb ++ c.map vb) := (hI.slots 33 76 _ (hdep 33 (by decide)) rfl rfl).resolve_left (fun h => Bool.noConfusion (hL.symm.trans h))
            obtain ⟨A4, cap4, hu, -, -⟩ := own_slice hown
            rw [hu] at hown
            exact wpOp_at rfl (wanted_true rfl rfl (hI.get (j := 21) (d := 64) (hdep 21 (by decide)) rfl rfl)) (wp_val (r_one rfl hu) (hI.putB HN hI.below.size rfl (hsz 77 (by decide)) rfl (.inr ⟨_, _, rfl, by simp, cell_new w1 _ _, hown.alloc _⟩)))
          · -- 35
            obtain ⟨g, u, hg, hgl, hcell, hown⟩ := (hI.slots 34 77 _ (hdep 34 (by decide)) rfl rfl).resolve_left (fun h => Bool.noConfusion (hL.symm.trans h))
            exact wpOp_at rfl (wanted_true rfl rfl (hI.get (j := 21) (d := 64) (hdep 21 (by decide)) rfl rfl)) (wp_fn rfl hent (by rw [hg]; exact (sumOwn a b c g u w1 _ hcell hgl hown (by omega) (by omega) (by omega)).mono (by rintro e w2 ⟨rfl, rfl⟩; exact ⟨_, rfl, (hI.putA HN rfl (hsz 78 (by decide)) rfl)⟩)))
          · -- 36
            exact wpOp_at rfl (wanted_true rfl rfl (hI.get (j := 21) (d := 64) (hdep 21 (by decide)) rfl rfl)) (wp_val (r_eql rfl (hI.get (j := 26) (d := 69) (hdep 26 (by decide)) rfl rfl) (hI.get (j := 35) (d := 78) (hdep 35 (by decide)) rfl rfl) rfl) (hI.putA HN rfl (hsz 79 (by decide)) rfl))
          · -- 37
            exact wpOp_at rfl (wanted_none rfl) (wp_val (r_pick rfl (hI.get (j := 21) (d := 64) (hdep 21 (by decide)) rfl rfl) (hI.get (j := 36) (d := 79) (hdep 36 (by decide)) rfl rfl)) (hI.putA HN rfl (hsz 80 (by decide)) rfl))
          · -- 38
            exact wpOp_at rfl (wanted_none rfl) (wp_assign rfl (hI.get (j := 37) (d := 80) (hdep 37 (by decide)) rfl rfl) (hI.putA HN rfl (hsz 6 (by decide)) rfl))
        · intro L a1 w1 hall hI
          have h6 := hI.get (j := 38) (d := 6) (hall 38 (by decide)) rfl rfl
          have hd := hI.defers
          obtain ⟨tm, df⟩ := a1
          simp only at hd
          subst hd
          have HB := Lib.hid (hbr.trans (hI.below.mono hsr))
          have ht : tm.getD 6 undef = .bool true := h6
          clear hI hall
          go_wp2_with fail
          exact bodyPost_ret (v := .bool true) (by simp [results, Try.results13, go_sem] at ht ⊢; exact ht) rfl ⟨rfl, HB.out⟩
end Go.Proofs.Ytjbachplnkonkaa
