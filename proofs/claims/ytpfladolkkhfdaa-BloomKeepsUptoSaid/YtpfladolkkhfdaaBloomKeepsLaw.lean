/- BloomKeeps: the walk of the law. -/
import Derived.Test.YtpfladolkkhfdaaAwake12
import Derived.Test.YtpfladolkkhfdaaBloomB
import Derived.Deep.RegionHeld3
import Derived.Deep.DrawnRows
namespace Go.Proofs.Ytpfladolkkhfdaa
set_option linter.unusedVariables false
open Go.RowKit
attribute [local go_sem ↓] Go.wp_at_zero Go.wp_at_succ

theorem reads_at12 {w : World} {cs : Array Value} {t : TypeId} {b : Nat} (hb : b = w.heap.size) : Reads (w.alloc (.cells cs t)) (b + 1) (some ⟨b, 0, none⟩) cs.toList := by
  subst hb
  exact Reads.of_block (heap_alloc_new w _) (by omega)

set_option maxHeartbeats 20000000 in
set_option maxRecDepth 100000 in
theorem bloomKeeps_any (ws : List ByteArray) (x : ByteArray) (A : Option Addr) (c : Nat) (w : World) (hr : Reads w w.heap.size A (ws.map vs)) (hl : ws.length ≤ 1048576) (hs : ∀ s ∈ ws, s.size ≤ 9223372036854775807) (hx : x.size ≤ 9223372036854775807) :
    Calls Try.prog 5 #[.slice A ws.length c, .string x] w fun e w' => e = .returned (.bool true) ∧ Below w.heap.size w w' := by
  have HS := Lib.hid hs
  have HFW : Hid (∀ x ∈ ws, has (make (bl ws)) x.data.toList = true) := Lib.hid (fun x hx => has_make (List.mem_map.2 ⟨x, hx, rfl⟩))
  have hlen := make_le (bl ws) (by simpa [bl] using (by omega : ws.length ≤ 1000000000))
  clear hs
  go_enter Try.func5, Try.ntmps5
  go_wp2_with fail
  refine (awake12_any _).mono ?_
  rintro e w1 ⟨rfl, hb1⟩
  have hs1 := hb1.size
  go_wp2_with (at_builtin; go_must (refine app rowStr rfl (.tmp 14) (.tmp 15) rfl w1.heap.size _ _ _ rfl (World.ownsRow_lit (size := 1) w1 #[] 0 (Nat.le_refl _) (by decide) rfl) w.heap.size _ _ _ (ws.map vs) rfl (by simp) (by exact (hr.below hb1).alloc hs1 _) (oneCell_vs _) (by omega) (by simp) ?_))
  intro v2 w2 hown2 hg2
  have hl0 := World.ownsRow_lit (base := w1.heap.size) (e := 9) (size := 1) w1 #[] 0 (Nat.le_refl _) (by decide) rfl
  have hb2 : Below w1.heap.size w1 w2 := hg2.below ((Below.refl _ _).alloc (Nat.le_refl _) _) hl0 (by simp)
  have hs2 := hb2.size
  clear hg2 hl0
  go_wp2_with (at_builtin; go_must (refine app1b rowStr rfl _ _ rfl _ w1.heap.size _ _ _ rfl (by exact hown2) _ rfl rfl rfl (by omega) hs2 ?_))
  intro v3 w3 hown3 hg3
  have hb3 := hg3.below hb2 hown2 hs2
  have hs3 := hb3.size
  obtain ⟨A3, c3, rfl, hc3, hc3', -⟩ := own_slice hown3
  have hR3 := Reads.of_own hown3
  obtain ⟨b3, off3, rfl, hb3lt, hc3c⟩ := hR3.at_ (k := ws.length) (by simp)
  have hsp : w3.cell? ⟨b3, off3 + ws.length, none⟩ = some (.string ⟨#[115, 112, 97, 114, 101]⟩) := hc3c _ _ (by simp)
  have hT3 : Reads w3 w3.heap.size (some ⟨b3, off3, none⟩) (ws.map vs) := by
    have h := hR3.take ws.length
    rw [List.take_left' (by simp)] at h
    exact h
  have hB3 := hb1.trans (hb3.mono hs1)
  clear hg3 hown2 hb2 hb3 hown3
  go_wp2_with fail
  refine (make_any ws (some ⟨b3, off3, none⟩) c3 w3 hT3 (by omega) HS.out).mono ?_
  rintro e w4 ⟨vf, rfl, hownf, hb4⟩
  have hs4 := hb4.size
  obtain ⟨Af, cf, rfl, hcf, hcf', -⟩ := own_slice hownf
  go_wp2_with fail
  refine (make_any ws (some ⟨b3, off3, none⟩) c3 w4 ((hT3.below hb4).more hs4) (by omega) HS.out).mono ?_
  rintro e w5 ⟨vg, rfl, howng, hb5⟩
  have hs5 := hb5.size
  have hap := (own_apart hownf howng (Nat.le_refl _)).1
  have hownf5 := own_past hownf hb5 (Nat.le_refl _)
  obtain ⟨Ag, cg, rfl, -⟩ := own_slice howng
  have hB35 := hb4.trans (hb5.mono hs4)
  clear hownf hb4 hb5 hT3
  generalize make (bl ws) = F at howng hownf5 hlen HFW hcf hap ⊢
  have e1 : (convert 23 9 (.slice Ag F.length cg)).run Try.prog w5 = .ok (.string ⟨F.toArray⟩) w5 := run_str (Reads.of_own howng) rfl
  go_wp2_with fail
  refine (has_any F Ag cg x w5 (Reads.of_own howng) (by omega) hx).mono ?_
  rintro e w6 ⟨rfl, hb6⟩
  have hs6 := hb6.size
  have howng6 := own_past howng hb6 (Nat.le_refl _)
  have hownf6 := own_past hownf5 hb6 (Nat.le_refl _)
  have hB36 := hB35.trans (hb6.mono (Nat.le_trans hs4 hs5))
  clear howng hownf5 hb6 hB35 e1
  go_wp2_with fail
  go_loopw [9] (fun i wr => ∃ k : Nat, k ≤ F.length ∧ i = .int .i64 k ∧ (∃ xs, wr.ownsRow w3.heap.size 5 1 (.slice Af F.length cf) F.length xs) ∧ wr.ownsRow w4.heap.size 5 1 (.slice Ag F.length cg) F.length (F.map vb) ∧ Below w3.heap.size w3 wr) (fun i _ => F.length - (intOf i).toNat)
  case atStart => exact ⟨0, Nat.zero_le _, rfl, ⟨_, hownf6⟩, howng6, hB36⟩
  case round =>
    clear hownf6 howng6 hB36
    obtain ⟨k, hk, rfl, ⟨xs, hownf⟩, howng, hbr⟩ := hrel
    have hsr := hbr.size
    rcases Nat.lt_or_ge k F.length with hlt | hge
    · obtain ⟨g, hg', hbg, hlg, hfz, hcl, hst⟩ := own_store hownf (by omega)
      cases hg'
      have fz := hfz k
      have st := hst k (.int .u8 0)
      obtain ⟨u, e2⟩ : ∃ u, wr.cell? ⟨g, k, none⟩ = some u := by
        have h1 := hownf.1
        exact ⟨_, (hcl k hlt).trans (List.getElem?_eq_getElem (by omega))⟩
      have hb4 : Below w3.heap.size w3 (wr.setCell ⟨g, k, none⟩ (.int .u8 0)) := hbr.setCell hbg _
      have hkg := howng.kept st.2 (by exact hap)
      have hst1 := Lib.hid st.1
      have hkg1 := Lib.hid hkg
      clear hcl hfz hst st hkg hownf howng hbr
      go_wp2_with fail
      go_roundw
      case rel => exact ⟨k + 1, by omega, by go_num, ⟨_, hst1.out⟩, hkg1.out, hb4⟩
      case measure => simp [intOf]; omega
    · obtain rfl : k = F.length := by omega
      go_wp2_with (at_builtin; go_must (refine app rowByte rfl _ _ rfl w3.heap.size _ _ _ rfl (by exact hownf.alloc _) (wr.heap.size + 1) _ _ _ (([1, 2, 3] : List UInt8).map vb) rfl rfl (by exact reads_at12 rfl) (oneCell_vb _) (by omega) (by simp; omega) ?_))
      intro v7 w7 hown7 hg7
      have hb7 : Below w3.heap.size w3 w7 := hg7.of_alloc.below hbr hownf hsr
      have hs7 := hb7.size
      have howng7 := howng.kept hg7.of_alloc.by_ hap
      obtain ⟨Ah, ch, rfl, -⟩ := own_slice hown7
      have hRG := Reads.of_own howng7
      have HRG := Lib.hid (fun w' (hb : Below w7.heap.size w7 w') => (hRG.below hb).more hb.size)
      have HRW := Lib.hid (fun w' (hb : Below w7.heap.size w7 w') => hr.below (hB3.trans ((hb7.trans (hb.mono hs7)).mono (Nat.le_trans hs1 hs3))))
      have HRF := Lib.hid (fun w' (hb : Below w7.heap.size w7 w') (j : Nat) (hj : j < ws.length) => (show w'.cell? ⟨b3, off3 + j, none⟩ = some (.string ws[j]) from ((hb7.trans (hb.mono hs7)).cell hb3lt).trans (hc3c j _ (by rw [List.getElem?_append_left (by simpa using hj)]; simp [hj]))))
      have HSP := Lib.hid (fun w' (hb : Below w7.heap.size w7 w') => ((hb7.trans (hb.mono hs7)).cell hb3lt).trans hsp)
      have HB7 := Lib.hid (hB3.trans (hb7.mono (Nat.le_trans hs1 hs3)))
      have hs07 := HB7.out.size
      clear hg7 hown7 howng7 hRG hownf howng hbr hb7 hr hR3 hc3c hsp hB3
      go_wp2_with fail
      go_loopw [11] (fun i wr => ∃ j : Nat, j ≤ ws.length ∧ i = .int .i64 j ∧ Below w7.heap.size w7 wr) (fun i _ => ws.length - (intOf i).toNat)
      case atStart => exact ⟨0, Nat.zero_le _, rfl, Below.refl _ _⟩
      case round =>
        obtain ⟨j, hj, rfl, hbi⟩ := hrel
        have hsi := hbi.size
        rcases Nat.lt_or_ge j ws.length with hjl | hjg
        · obtain ⟨b5, off5, hA, hblt, hc5⟩ := (HRW.out wr hbi).at_ (k := j) (by simpa using hjl)
          have d1 : wr.cell? ⟨b5, off5 + j, none⟩ = some (.string ws[j]) := hc5 j _ (by simp [hjl])
          have d2 := HRF.out wr hbi j hjl
          have H1 := HFW.out ws[j] (List.getElem_mem _)
          have hsz := HS.out ws[j] (List.getElem_mem _)
          cases hA
          clear hc5
          generalize ws[j] = y at d1 d2 H1 hsz
          have C1 := has_any F Ag cg y wr.drew ((HRG.out wr hbi).drew) (by omega) hsz
          rw [H1] at C1
          have ib1 : (j : Int) < (ws.length : Int) := by omega
          have ib2 : (j : Int) < (ws.length : Int) + 1 := by omega
          have C1' := Lib.hid C1
          clear C1 H1
          go_wp2_with fail
          have l1 : b3 < wr.drew.heap.size := by simp; omega
          have l2 : b5 < wr.drew.heap.size := by simp; omega
          go_region_held3 (fun w' => w'.cell? ⟨b3, off3 + j, none⟩ = some (.string y) ∧ w'.cell? ⟨b5, off5 + j, none⟩ = some (.string y)) (first | exact ⟨(hb8.cell l1).trans d2, (hb8.cell l2).trans d1⟩ | go_keep) (first
            | (go_at_call 14; refine C1'.out.mono ?_; rintro e w8 ⟨rfl, hb8⟩))
          all_goals
            go_wp2_with fail
            go_roundw
            case rel => exact ⟨j + 1, by omega, by go_num, hbi.drew.trans (hb8.mono hsi)⟩
            case measure => simp [intOf]; omega
        · obtain rfl : j = ws.length := by omega
          have d2 := HSP.out wr hbi
          have e8 : (convert 23 9 (.slice Ag F.length cg)).run Try.prog wr = .ok (.string ⟨F.toArray⟩) wr := run_str (HRG.out wr hbi) rfl
          have q8 : ((F.length : Int) + 3 == (F.length : Int) + 3) = true := by simp
          go_wp2_with fail
          go_ret
          exact ⟨rfl, HB7.out.trans (hbi.mono hs07)⟩
end Go.Proofs.Ytpfladolkkhfdaa
