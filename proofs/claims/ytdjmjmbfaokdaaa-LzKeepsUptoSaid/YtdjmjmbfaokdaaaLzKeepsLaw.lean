/- LzKeeps: the walk of the law. -/
import Derived.Test.YtdjmjmbfaokdaaaAwake4
import Derived.Test.YtdjmjmbfaokdaaaLzBackM
import Derived.Deep.RegionWith
import Derived.Deep.QuietTactic
import Derived.BigQuiet
namespace Go.Proofs.Ytdjmjmbfaokdaaa
set_option linter.unusedVariables false
open Go.RowKit
open Varm

theorem concat_mk (l m : List UInt8) : (⟨l.toArray⟩ : ByteArray) ++ (⟨m.toArray⟩ : ByteArray) = ⟨(l ++ m).toArray⟩ := by
  apply ByteArray.ext
  simp

theorem partsAt_len : ∀ (f : Nat) (out b : List UInt8) (at_ total : Nat), out.length ≤ total → (partsAt f out b at_ total).1.length ≤ total
  | 0, out, b, at_, total, h => by simp [partsAt]
  | f + 1, out, b, at_, total, h => by
    rw [partsAt]
    split
    · split
      · simp
      · exact h
    · split
      · simp
      · rename_i h2
        have h2 : (partAt out b at_ total).2.2 = 0 := by simpa using h2
        exact partsAt_len f _ b _ total (partAt_ok h h2).2.1
theorem expand_len (b : List UInt8) (most : Int) : (expand b most).1.length ≤ 65536 := by
  unfold expand
  split
  · simp
  · split
    · simp
    · have := partsAt_len (b.length + 1) [] b (getAt b 0).2.1.toNat (getAt b 0).1 (by simp)
      omega

set_option maxHeartbeats 4000000 in
set_option maxRecDepth 100000 in
theorem lzKeeps_any (p : List UInt8) (A : Option Addr) (c : Nat) (w : World) (hr : Reads w w.heap.size A (p.map vb)) (hl : p.length ≤ 1048576) :
    Calls Try.prog 6 #[.slice A p.length c] w fun e w' => e = .returned (.bool true) ∧ Below w.heap.size w w' := by
  go_enter Try.func6, Try.ntmps6
  go_wp2_with fail
  refine (awake4_any _).mono ?_
  rintro e w1 ⟨rfl, hb1⟩
  have hs1 := hb1.size
  go_wp2_with (at_builtin; go_must (refine app rowByte rfl (.tmp 16) (.tmp 17) rfl w1.heap.size _ _ _ rfl (World.ownsRow_lit (size := 1) w1 #[] 0 (Nat.le_refl _) (by decide) rfl) w.heap.size _ _ _ (p.map vb) rfl (by simp) (by exact (hr.below hb1).alloc hs1 _) (oneCell_vb _) (by omega) (by simp) ?_))
  intro v2 w2 hown2 hg2
  have hl0 := World.ownsRow_lit (base := w1.heap.size) (e := 5) (size := 1) w1 #[] 0 (Nat.le_refl _) (by decide) rfl
  have hb2 : Below w1.heap.size w1 w2 := hg2.below ((Below.refl w1.heap.size w1).alloc (Nat.le_refl _) _) hl0 (by simp)
  have hs2 := hb2.size
  go_wp2_with (at_builtin; go_must (refine app rowByte rfl _ _ rfl w1.heap.size _ _ _ rfl (by exact hown2.alloc _) (w2.heap.size + 1) _ _ _ (([1, 2, 3, 4, 5] : List UInt8).map vb) rfl rfl (by exact readsAt rfl) (oneCell_vb _) (by omega) (by simp; omega) ?_))
  intro v3 w3 hown3 hg3
  have hb3 : Below w1.heap.size w1 w3 := hg3.of_alloc.below hb2 hown2 hs2
  have hs3 := hb3.size
  have hb03 := hb1.trans (hb3.mono hs1)
  rw [show [vb 1, vb 2, vb 3, vb 4, vb 5] = ([1, 2, 3, 4, 5] : List UInt8).map vb from rfl, ← List.map_append] at hown3
  clear hg2 hg3 hown2 hl0 hb2 hb3 hb1
  obtain ⟨A3, c3, rfl, hc3, hm3, -⟩ := own_slice hown3
  unfold maxLen at hm3
  have hr3 : Reads w3 w3.heap.size A3 (p.map vb) := by
    have := (Reads.of_own hown3).take p.length
    rwa [List.map_append, List.take_left' (by simp)] at this
  go_wp2_with fail
  refine (comp_any p A3 c3 w3 w3.heap.size hr3 (Nat.le_refl _) (by omega) (by omega)).mono ?_
  rintro e w4 ⟨v4, rfl, hown4, hb4⟩
  obtain ⟨A4, c4, rfl, -, -⟩ := own_slice hown4
  have hs4 := hb4.size
  go_wp2_with fail
  refine (expand_any p A3 c3 3000 w4 w4.heap.size ((hr3.below hb4).more hs4) (Nat.le_refl _) (by omega) (by omega) (by omega) (by omega)).mono ?_
  rintro e w5 ⟨v5, rfl, hown5, hb5⟩
  obtain ⟨A5, c5, rfl, -, -⟩ := own_slice hown5
  have hs5 := hb5.size
  have hb35 := hb4.trans (hb5.mono hs4)
  go_wp2_with fail
  refine (expand_any p A3 c3 3000 w5 w5.heap.size ((hr3.below hb35).more (by omega)) (Nat.le_refl _) (by omega) (by omega) (by omega) (by omega)).mono ?_
  rintro e w6 ⟨v6, rfl, hown6, hb6⟩
  obtain ⟨A6, c6, rfl, -, -⟩ := own_slice hown6
  have hs6 := hb6.size
  have hb36 := hb35.trans (hb6.mono (by omega))
  have hown36 := own_past hown3 hb36 (Nat.le_refl _)
  have hown46 := own_past (own_past hown4 hb5 (Nat.le_refl _)) hb6 (Nat.le_refl _)
  have hown56 := own_past hown5 hb6 (Nat.le_refl _)
  have ap34 := own_apart hown3 hown4 (Nat.le_refl _)
  have ap35 := own_apart hown3 hown5 (by omega)
  have ap45 := own_apart hown4 hown5 (Nat.le_refl _)
  have ap46 := own_apart hown4 hown6 (by omega)
  have ap56 := own_apart hown5 hown6 (Nat.le_refl _)
  have hb06 := hb03.trans (hb36.mono (by omega))
  have hr6 := hr.below hb06
  have hst1 := run_str (n := p.length + 5) (c := c3) (Reads.of_own hown36) (by simp)
  have hst2 := run_str (c := c) hr6 rfl
  have hst5 := run_str (c := c5) (Reads.of_own hown56) rfl
  have hst6 := run_str (c := c6) (Reads.of_own hown6) rfl
  have hx0 : (p ++ [1, 2, 3, 4, 5] == ((⟨p.toArray⟩ : ByteArray) ++ (⟨#[1, 2, 3, 4, 5]⟩ : ByteArray)).toList) = true := by
    have h1 := concat_mk p [1, 2, 3, 4, 5]
    have h2 := toList_mk (p ++ [1, 2, 3, 4, 5])
    rw [← h1] at h2
    rw [beq_iff_eq]
    exact h2.symm
  obtain ⟨D, hD⟩ : ∃ D, D = decide ((p.length : Int) ≤ 65536) := ⟨_, rfl⟩
  have hE : (((compress p).2 : Int) == 0) = D := by
    rw [hD]; unfold compress
    split
    · simp; omega
    · simp; omega
  have hDn : decide (p.length ≤ 65536) = D := by rw [hD]; exact decide_eq_decide.2 (by omega)
  have hDD : (D == D) = true := by simp
  have HD := Lib.hid hD.symm
  have HE := Lib.hid hE
  have HDn := Lib.hid hDn
  have hCl : (compress p).1.length ≤ 100000 := by
    by_cases h : p.length ≤ 65536
    · have := (compress_back h).2.2.1
      omega
    · unfold compress; rw [if_pos (by omega)]; simp
  have hXl : (expand p 3000).1.length ≤ 65536 := expand_len p 3000
  clear hD hE hDn hown3 hown4 hown5 hb03 hb4 hb5 hb6 hb35 hb36 hr3
  have hr0 := Lib.hid hr
  clear hr
  generalize hC : (compress p).1 = C at *
  generalize hX : (expand p 3000).1 = X at *
  generalize (expand p 3000).2 = F at *
  generalize (compress p).2 = E at *
  clear hC hX
  go_wp2_with fail
  go_loopw [11] (fun i wr => ∃ (k : Nat) (l : List UInt8), l.length = X.length ∧ k ≤ X.length ∧ i = .int .i64 k ∧ wr.ownsRow w4.heap.size 5 1 (.slice A5 X.length c5) X.length (l.map vb) ∧ w6.grownBy wr (Value.ownBlock (.slice A5 X.length c5))) (fun i _ => X.length - (intOf i).toNat)
  case atStart => exact ⟨0, X, rfl, Nat.zero_le _, rfl, hown56, World.grownBy.refl _ _⟩
  case round =>
    obtain ⟨k, l, hll, hk, rfl, hown, hgr⟩ := hrel
    rcases Nat.lt_or_ge k X.length with hlt | hge
    · obtain ⟨g, rfl, _, _, hfz, hcell, hset⟩ := own_store hown (by omega)
      have h1 := hcell k hlt
      have hkx : k < l.length := by omega
      rw [List.getElem?_map, List.getElem?_eq_getElem hkx, Option.map_some] at h1
      have h2 := hfz k
      have h3 := hset k (.int .u8 (((l[k].toNat : Int) + 1) % 256))
      have hv : Value.int .u8 (((l[k].toNat : Int) + 1) % 256) = vb (l[k] + 1) := by
        simp [vb]
      rw [hv, ← List.map_set] at h3
      have H3 := Lib.hid h3
      have HV := Lib.hid hv
      have HLL : Hid ((l.set k (l[k] + 1)).length = X.length) := Lib.hid (by simpa using hll)
      generalize l.set k (l[k] + 1) = l' at H3 HLL
      have hbx := UInt8.toNat_lt l[k]
      generalize l[k] = x at h1 HV H3 hbx
      clear hcell hfz hset h3 hv hll hkx
      go_wp2_with fail
      go_roundw
      case rel => exact ⟨k + 1, l', HLL.out, by omega, by go_num, by rw [HV.out]; exact H3.out.1, hgr.trans (by rw [HV.out]; exact H3.out.2)⟩
      case measure => simp [intOf]; omega
    · obtain rfl : X.length = k := by omega
      have gr1 := hgr
      have hs7 := hgr.size
      have r1 := hown36.kept hgr ap35.2
      have c1 := hown46.kept hgr ap45.2
      have y1 := hown6.kept hgr ap56.1
      have lt5 := hown56.lt
      have hb07 := hb06.grown hgr (by have := hb06.size; omega) (fun g hg => by have := lt5 g hg; omega)
      have hx1 := hown
      generalize wr = w7 at *
      clear hgr hown hown36 hown46 hown56 hown6 hb06 hst1 hst2 hst5 hst6 hr6 hx0
      go_wp2_with fail
      go_loopw [12] (fun i wr => ∃ (k : Nat) (l : List UInt8), l.length = C.length ∧ k ≤ C.length ∧ i = .int .i64 k ∧ wr.ownsRow w3.heap.size 5 1 (.slice A4 C.length c4) C.length (l.map vb) ∧ w7.grownBy wr (Value.ownBlock (.slice A4 C.length c4))) (fun i _ => C.length - (intOf i).toNat)
      case atStart => exact ⟨0, C, rfl, Nat.zero_le _, rfl, c1, World.grownBy.refl _ _⟩
      case round =>
        obtain ⟨k, l, hll, hk, rfl, hown, hgr⟩ := hrel
        rcases Nat.lt_or_ge k C.length with hlt | hge
        · obtain ⟨g, rfl, _, _, hfz, hcell, hset⟩ := own_store hown (by omega)
          have h1 := hcell k hlt
          have hkx : k < l.length := by omega
          rw [List.getElem?_map, List.getElem?_eq_getElem hkx, Option.map_some] at h1
          have h2 := hfz k
          have h3 := hset k (.int .u8 (((l[k].toNat : Int) + 1) % 256))
          have hv : Value.int .u8 (((l[k].toNat : Int) + 1) % 256) = vb (l[k] + 1) := by
            simp [vb]
          rw [hv, ← List.map_set] at h3
          have H3 := Lib.hid h3
          have HV := Lib.hid hv
          have HLL : Hid ((l.set k (l[k] + 1)).length = C.length) := Lib.hid (by simpa using hll)
          generalize l.set k (l[k] + 1) = l' at H3 HLL
          have hbx := UInt8.toNat_lt l[k]
          generalize l[k] = x at h1 HV H3 hbx
          clear hcell hfz hset h3 hv hll hkx
          go_wp2_with fail
          go_roundw
          case rel => exact ⟨k + 1, l', HLL.out, by omega, by go_num, by rw [HV.out]; exact H3.out.1, hgr.trans (by rw [HV.out]; exact H3.out.2)⟩
          case measure => simp [intOf]; omega
        · obtain rfl : C.length = k := by omega
          have hs8 := hgr.size
          have r2 := r1.kept hgr ap34.2
          have y2 := y1.kept hgr ap46.1
          have x2 := hx1.kept hgr ap45.1
          have lt4 := c1.lt
          have hb08 := hb07.grown hgr (by have := hb07.size; omega) (fun g hg => by have := lt4 g hg; omega)
          clear hgr hown r1 c1 y1 hx1 hb07
          go_wp2_with (at_builtin; go_must (refine app rowByte rfl _ _ rfl w4.heap.size _ _ _ rfl (by exact x2.alloc _) (wr.heap.size + 1) _ _ _ (([9, 9, 9] : List UInt8).map vb) rfl rfl (by exact readsAt rfl) (oneCell_vb _) (by omega) (by simp; omega) ?_))
          intro v9 w9 hown9 hg9
          have hgr9 := hg9.of_alloc.by_
          have r3 := r2.kept hgr9 ap35.2
          have y3 := y2.kept hgr9 ap56.1
          have lt5 := x2.lt
          have hb09 := hb08.grown hgr9 (by have := hb08.size; omega) (fun g hg => by have := lt5 g hg; omega)
          have hr9 := hr0.out.below hb09
          have HB := Lib.hid hb09
          obtain ⟨A9, c9, rfl, -, -⟩ := own_slice hown9
          have sy := fun nq => run_str (c := c6) ((Reads.of_own y3).drewN nq) rfl
          have hrm : Reads w9 w9.heap.size A3 (p.map vb) := by
            have := (Reads.of_own r3).take p.length
            rw [← List.map_take, List.take_left' rfl] at this
            exact this
          have srm := fun nq => run_str (c := c3) (hrm.drewN nq) rfl
          have sb := fun nq => run_str (c := c) (hr9.drewN nq) rfl
          have wX : IntKind.i64.wrap ((X.length : Int) + 3) = (X.length : Int) + 3 := IntWalk.i64_in _ (by omega)
          have hle : ((X.length : Int) + 3 == (X.length : Int) + 3) = true := by simp
          have hle2 : (X.length + 3 == X.length + 3) = true := by simp
          have hD1 := HD.out
          have hE1 := HE.out
          have hDn1 := HDn.out
          clear hg9 hgr9 r2 y2 x2 hb08 r3 y3 hb09 hr9 hrm hown9 lt5
          go_wp2_with fail
          go_quiet (fail)
          go_wp2_with fail
          go_ret
          exact ⟨rfl, below_drewN HB.out⟩
end Go.Proofs.Ytdjmjmbfaokdaaa
