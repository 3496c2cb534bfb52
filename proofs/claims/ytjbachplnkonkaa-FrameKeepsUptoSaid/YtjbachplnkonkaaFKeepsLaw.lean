/- FrameKeeps: the walk of the law. -/
import Derived.Test.YtjbachplnkonkaaAwake2
namespace Go.Proofs.Ytjbachplnkonkaa
set_option linter.unusedVariables false
open Go.RowKit
open Varm Frm

theorem concat_mk (l m : List UInt8) : (⟨l.toArray⟩ : ByteArray) ++ (⟨m.toArray⟩ : ByteArray) = ⟨(l ++ m).toArray⟩ := by
  apply ByteArray.ext
  simp

set_option maxHeartbeats 4000000 in
set_option maxRecDepth 100000 in
theorem fkeeps_any (p : List UInt8) (A : Option Addr) (c : Nat) (w : World) (hr : Reads w w.heap.size A (p.map vb)) (hl : p.length ≤ 1048576) :
    Calls Try.prog 12 #[.slice A p.length c] w fun e w' => e = .returned (.bool true) ∧ Below w.heap.size w w' := by
  go_enter Try.func12, Try.ntmps12
  go_wp2_with fail
  refine (awake2_any _).mono ?_
  rintro e w1 ⟨rfl, hb1⟩
  have hs1 := hb1.size
  go_wp2_with (at_builtin; go_must (refine app rowByte rfl (.tmp 13) (.tmp 14) rfl w1.heap.size _ _ _ rfl (World.ownsRow_lit (size := 1) w1 #[] 0 (Nat.le_refl _) (by decide) rfl) w.heap.size _ _ _ (p.map vb) rfl (by simp) (by exact (hr.below hb1).alloc hs1 _) (oneCell_vb _) (by omega) (by simp) ?_))
  intro v2 w2 hown2 hg2
  have hl0 := World.ownsRow_lit (base := w1.heap.size) (e := 5) (size := 1) w1 #[] 0 (Nat.le_refl _) (by decide) rfl
  have hb2 : Below w1.heap.size w1 w2 := hg2.below ((Below.refl w1.heap.size w1).alloc (Nat.le_refl _) _) hl0 (by simp)
  have hs2 := hb2.size
  go_wp2_with (at_builtin; go_must (refine app rowByte rfl _ _ rfl w1.heap.size _ _ _ rfl (by exact hown2.alloc _) (w2.heap.size + 1) _ _ _ (([1, 2, 3, 4, 5, 6] : List UInt8).map vb) rfl rfl (by exact reads_at rfl) (oneCell_vb _) (by omega) (by simp; omega) ?_))
  intro v3 w3 hown3 hg3
  have hb3 : Below w1.heap.size w1 w3 := hg3.of_alloc.below hb2 hown2 hs2
  have hs3 := hb3.size
  have hb03 := hb1.trans (hb3.mono hs1)
  rw [show [vb 1, vb 2, vb 3, vb 4, vb 5, vb 6] = ([1, 2, 3, 4, 5, 6] : List UInt8).map vb from rfl, ← List.map_append] at hown3
  clear hg2 hg3 hown2 hl0 hb2 hb3 hb1
  obtain ⟨A3, c3, rfl, hc3, -⟩ := own_slice hown3
  have hr3 : Reads w3 w3.heap.size A3 (p.map vb) := by
    have := (Reads.of_own hown3).take p.length
    rwa [List.map_append, List.take_left' (by simp)] at this
  go_wp2_with fail
  refine (frame_any p A3 c3 w3 hr3 (by omega)).mono ?_
  rintro e w4 ⟨v4, rfl, hown4, hb4⟩
  obtain ⟨A4, c4, rfl, hc4, -⟩ := own_slice hown4
  have hs4 := hb4.size
  have hown34 := own_past hown3 hb4 (Nat.le_refl _)
  have hr4 := (hr.below hb03).below (hb4.mono (by omega))
  have HB4 := Lib.hid (hb03.trans (hb4.mono (by omega)))
  have hst1 := run_str (n := p.length + 6) (c := c3) (Reads.of_own hown34) (by simp)
  have hst2 := run_str (c := c) hr4 rfl
  have hx0 : (p ++ [1, 2, 3, 4, 5, 6] == ((⟨p.toArray⟩ : ByteArray) ++ (⟨#[1, 2, 3, 4, 5, 6]⟩ : ByteArray)).toList) = true := by
    have h1 := concat_mk p [1, 2, 3, 4, 5, 6]
    have h2 := toList_mk (p ++ [1, 2, 3, 4, 5, 6])
    rw [← h1] at h2
    rw [beq_iff_eq]
    exact h2.symm
  rcases Nat.lt_or_ge 65536 p.length with hlong | hshort
  · have hR : frameR p = ([], 4) := if_pos hlong
    rw [hR]
    clear hr hb4 hown3 hr3 hb03 hR hown34 hown4 hr4
    go_wp2_with fail
    go_ret
    exact ⟨rfl, HB4.out⟩
  · have hR : frameR p = (frame p, 0) := if_neg (by omega)
    rw [hR] at hown4 hc4 ⊢
    have HFL := Lib.hid (frame_length p)
    have ho2 := one_len p.length (by omega)
    have hf1 : (frame p).length ≤ 65550 := by have := HFL.out; omega
    have hrf := readAt_frame [] p [] hshort
    rw [List.append_nil, List.nil_append, List.length_nil] at hrf
    have hrf' : readAt (frame p) 0 = (p, ((0 : Nat) : Int) + (frame p).length, 0) := hrf
    have hread := read_any (frame p) A4 c4 0 w4 (Reads.of_own hown4) hc4 (by omega)
    rw [hrf'] at hread
    have HR := Lib.hid hread
    have hstA := run_str (c := c4) (Reads.of_own hown4) rfl
    clear hr hb4 hown3 hr3 hb03 hR hown34 hr4 hrf hrf' hread
    go_wp2_with fail
    refine HR.out.mono ?_
    rintro e w5 ⟨v5, rfl, hown5, hb5⟩
    obtain ⟨A5, c5, rfl, hc5, -⟩ := own_slice hown5
    have hs5 := hb5.size
    have hown45 := own_past hown4 hb5 (Nat.le_refl _)
    have HB5 := Lib.hid (HB4.out.trans (hb5.mono (by omega)))
    have hap := own_apart hown4 hown5 (Nat.le_refl _)
    clear hown4 hb5 HB4 hst1 hst2 hstA hx0 HR
    go_wp2_with fail
    go_loopw [9] (fun i wr => ∃ (k : Nat) (l : List UInt8), l.length = p.length ∧ k ≤ p.length ∧ i = .int .i64 k ∧ wr.ownsRow w4.heap.size 5 1 (.slice A5 p.length c5) p.length (l.map vb) ∧ w5.grownBy wr (Value.ownBlock (.slice A5 p.length c5))) (fun i _ => p.length - (intOf i).toNat)
    case atStart => exact ⟨0, p, rfl, Nat.zero_le _, rfl, hown5, World.grownBy.refl _ _⟩
    case round =>
      obtain ⟨k, l, hll, hk, rfl, hown, hgr⟩ := hrel
      rcases Nat.lt_or_ge k p.length with hlt | hge
      · obtain ⟨g, rfl, _, _, hfz, hcell, hset⟩ := own_store hown (by omega)
        have h1 := hcell k hlt
        have hkx : k < l.length := by omega
        rw [List.getElem?_map, List.getElem?_eq_getElem hkx, Option.map_some] at h1
        have h2 := hfz k
        have h3 := hset k (.int .u8 (((l[k].toNat : Int) + 1) % 256))
        have hv : Value.int .u8 (((l[k].toNat : Int) + 1) % 256) = vb (l[k] + 1) := by
          simp [vb]
        rw [hv, ← List.map_set] at h3
        have H3 := Lib.hid h3
        have HV := Lib.hid hv
        have HLL : Hid ((l.set k (l[k] + 1)).length = p.length) := Lib.hid (by simpa using hll)
        generalize l.set k (l[k] + 1) = l' at H3 HLL
        have hbx := UInt8.toNat_lt l[k]
        generalize l[k] = x at h1 HV H3 hbx
        clear hcell hfz hset h3 hv hll hkx
        go_wp2_with fail
        go_roundw
        case rel => exact ⟨k + 1, l', HLL.out, by omega, by go_num, by rw [HV.out]; exact H3.out.1, hgr.trans (by rw [HV.out]; exact H3.out.2)⟩
        case measure => simp [intOf]; omega
      · obtain rfl : k = p.length := by omega
        have hszr := hgr.size
        go_wp2_with (at_builtin; go_must (refine app rowByte rfl _ _ rfl w4.heap.size _ _ _ rfl (by exact hown.alloc _) (wr.heap.size + 1) _ _ _ (([7, 7, 7, 7, 7] : List UInt8).map vb) rfl rfl (by exact reads_at rfl) (oneCell_vb _) (by omega) (by simp; omega) ?_))
        intro v6 w6 hown6 hg6
        have hgr6 : w5.grownBy w6 (Value.ownBlock (.slice A5 p.length c5)) := hgr.trans ((World.grownBy_alloc wr _ _).trans hg6.by_)
        have hs6 := hgr6.size
        have hownA6 := hown45.kept hgr6 hap.2
        have hb5' := hown5.lt
        have HB6 := Lib.hid (HB5.out.grown hgr6 (by have := HB5.out.size; omega) (fun g hg => by have := hb5' g hg; omega))
        obtain ⟨A6, c6, rfl, -, -⟩ := own_slice hown6
        have hstr := run_str (c := c4) (Reads.of_own hownA6) rfl
        clear hown45 hgr hgr6 hg6 hown6 hown hown5 hownA6
        go_wp2_with fail
        go_ret
        exact ⟨rfl, HB6.out⟩
end Go.Proofs.Ytjbachplnkonkaa
