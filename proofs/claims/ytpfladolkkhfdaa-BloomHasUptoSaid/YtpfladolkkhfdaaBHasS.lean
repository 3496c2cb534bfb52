/- BloomHas: the walk, some words. -/
import Derived.Test.YtpfladolkkhfdaaBHasP
namespace Go.Proofs.Ytpfladolkkhfdaa
set_option linter.unusedVariables false
open Go.RowKit
attribute [local go_sem ↓] Go.wp_at_zero Go.wp_at_succ

set_option maxHeartbeats 40000000 in
set_option maxRecDepth 100000 in
theorem bloomHas_some (ws : List ByteArray) (turn : Int) (more : List UInt8) (b off : Nat) (A' : Option Addr) (c c' : Nat) (w : World) (hr : Reads w w.heap.size (some ⟨b, off, none⟩) (ws.map vs)) (hr' : Reads w w.heap.size A' (more.map vb)) (hl : ws.length ≤ 1048576) (hc : ws.length ≤ c) (hc2 : c ≤ 9223372036854775807) (hm : more.length ≤ 1000000000) (hs : ∀ s ∈ ws, s.size ≤ 9223372036854775807) (ht1 : -9223372036854775808 ≤ turn) (ht2 : turn ≤ 9223372036854775807) :
    Calls Try.prog 4 #[.slice (some ⟨b, off, none⟩) ws.length c, .int .i64 turn, .slice A' more.length c'] w fun e w' => e = .returned (.bool true) ∧ Below w.heap.size w w' := by
  have HS := Lib.hid hs
  clear hs
  go_enter Try.func4, Try.ntmps4
  go_wp2_with fail
  refine (awake12_any _).mono ?_
  rintro e w1 ⟨rfl, hb1⟩
  have hs1 := hb1.size
  have hr1 := (hr.below hb1).more hs1
  go_wp2_with fail
  refine (make_any ws (some ⟨b, off, none⟩) c w1 hr1 (by omega) HS.out).mono ?_
  rintro e w2 ⟨v, rfl, hown, hb2⟩
  have hs2 := hb2.size
  have hB2 := hb1.trans (hb2.mono hs1)
  have hr2 := ((hr1.below hb2).more hs2)
  obtain ⟨A1, c1, rfl, -⟩ := own_slice hown
  have hlen := make_le (bl ws) (by simpa [bl] using (by omega : ws.length ≤ 1000000000))
  have hR := Reads.of_own hown
  obtain ⟨K, hk, hK⟩ : ∃ K : Nat, wrap64 ((IntKind.u64.wrap turn).tmod ((ws.length : Int) + 1)) = (K : Int) ∧ K ≤ ws.length := by
    have h1 := (wrapU turn).1
    have h2 := Int.tmod_nonneg ((ws.length : Int) + 1) h1
    have h3 := Int.tmod_lt_of_pos (IntKind.u64.wrap turn) (show (0 : Int) < (ws.length : Int) + 1 by omega)
    refine ⟨((IntKind.u64.wrap turn).tmod ((ws.length : Int) + 1)).toNat, ?_, by omega⟩
    rw [wrap64_small _ (by omega) (by omega)]
    omega
  rcases Nat.lt_or_ge K ws.length with hKl | hKg
  · have R1 : Reads w2 w2.heap.size (some ⟨b, off + K, none⟩) ((ws.drop K).map vs) := by
      have h := hr2.cut (k := K) (cap := c) (by simpa using hc)
      rw [← List.map_drop, if_neg (by omega), Option.map_some, Addr.add_lit] at h
      exact h
    go_wp2_with (at_builtin; go_must (refine app rowStr rfl _ _ rfl w2.heap.size _ 0 [] rfl (World.ownsRow_nil _ _ _ _) w2.heap.size _ (ws.length - K) _ ((ws.drop K).map vs) rfl (by simp) (by exact R1) (oneCell_vs _) (by omega) (by simp) ?_))
    intro v3 w3 hown3 hg3
    clear R1
    rw [← List.map_drop] at hown3
    have hb3 : Below w2.heap.size w2 w3 := hg3.below (Below.refl _ _) (World.ownsRow_nil _ _ 9 _) (by simp)
    have hs3 := hb3.size
    clear hg3 hk
    go_wp2_with (at_builtin; go_must (refine app rowStr rfl _ _ rfl w2.heap.size _ _ _ rfl (by exact hown3) w2.heap.size _ _ _ (ws.map vs) rfl (by simp) (by exact hr2.below hb3) (oneCell_vs _) (by omega) hs3 ?_))
    intro v4 w4 hown4 hg4
    have hb4 := hg4.below hb3 hown3 hs3
    have hs4 := hb4.size
    obtain ⟨A4, c4, rfl, -⟩ := own_slice hown4
    have hR4 := Reads.of_own hown4
    have HMT := make_any (ws.drop K ++ ws) A4 c4 w4.drew (by simpa using hR4.drew) (by rw [List.length_append, List.length_drop]; omega) (fun s hs => by
      rcases List.mem_append.1 hs with h | h
      · exact HS.out s (List.mem_of_mem_drop h)
      · exact HS.out s h)
    have hsame : make (bl (ws.drop K ++ ws)) = make (bl ws) := make_same (fun l => by
      simp only [bl, List.map_append, List.mem_append]
      constructor
      · rintro (h | h)
        · rw [List.map_drop] at h; exact List.mem_of_mem_drop h
        · exact h
      · exact .inr)
    have hL : (ws.drop K ++ ws).length = ws.length - K + ws.length := by simp
    rw [hsame, hL] at HMT
    have HFW : Hid (∀ x ∈ ws, has (make (bl ws)) x.data.toList = true) := Lib.hid (fun x hx => has_make (List.mem_map.2 ⟨x, hx, rfl⟩))
    clear hsame hL hg4 hown3 hb3 hs3 hR4 hown4
    generalize make (bl ws) = F at hown hlen hR HMT HFW ⊢
    have e1 : (convert 23 9 (.slice A1 F.length c1)).run Try.prog w4.drew = .ok (.string ⟨F.toArray⟩) w4.drew := run_str ((hR.below hb4).drew) rfl
    have HR := Lib.hid (fun w' (hb : Below w2.heap.size w2 w') => (hR.below hb).more hb.size)
    have HRW := Lib.hid (fun w' (hb : Below w2.heap.size w2 w') => hr2.below hb)
    have HRM := Lib.hid (fun w' (hb : Below w2.heap.size w2 w') => hr'.below (hB2.trans (hb.mono (Nat.le_trans hs1 hs2))))
    have HB2 := Lib.hid hB2
    clear hr hr' hr1 hr2 hb1 hb2 hB2 hown
    go_wp2_with fail
    go_region_with (first
      | (go_at_call 12; refine HMT.mono ?_; rintro e w5 ⟨v, rfl, hown5, hb5⟩; obtain ⟨A5, c5, rfl, -⟩ := own_slice hown5; have e2 := run_str (c := c5) (Reads.of_own hown5) rfl; have e3 := run_str (A := A1) (c := c1) (w := w5) (hR.below (hb4.drew.trans (hb5.mono hs4))) rfl))
    all_goals
      have hb25 := hb4.drew.trans (hb5.mono hs4)
      have hs5 := hb25.size
      clear hown5 e2 e3
      go_wp2_with (at_builtin; go_must (refine app rowByte rfl (.tmp 39) (.tmp 40) rfl w5.heap.size _ _ _ rfl (World.ownsRow_lit (size := 1) w5 #[] 0 (Nat.le_refl _) (by decide) rfl) w2.heap.size _ _ _ (F.map vb) rfl (by simp) (by exact (hR.below hb25).alloc hs5 _) (oneCell_vb _) (by omega) (by simp) ?_))
      intro v6 w6 hown6 hg6
      have hl0 := World.ownsRow_lit (base := w5.heap.size) (e := 5) (size := 1) w5 #[] 0 (Nat.le_refl _) (by decide) rfl
      have hb6 : Below w5.heap.size w5 w6 := hg6.below ((Below.refl _ _).alloc (Nat.le_refl _) _) hl0 (by simp)
      have hb26 := hb25.trans (hb6.mono hs5)
      have hown7 := own_base hown6 hs5
      obtain ⟨A6, c6, rfl, -⟩ := own_slice hown7
      clear hg6 hl0 hb6 hown6
      go_wp2_with fail
      go_loopw [11] (fun i wr => ∃ k : Nat, k ≤ more.length ∧ k ≤ F.length ∧ i = .int .i64 k ∧ wr.ownsRow w2.heap.size 5 1 (.slice A6 F.length c6) F.length ((orTo F more k).map vb) ∧ Below w2.heap.size w2 wr) (fun i _ => more.length - (intOf i).toNat)
      case atStart => exact ⟨0, by omega, by omega, rfl, hown7, hb26⟩
      case round =>
        clear hown7 hb26 hb25 hb5 hb4
        obtain ⟨k, hk1, hk2, rfl, hown, hbr⟩ := hrel
        have hsr := hbr.size
        have hG := Lib.hid (orTo_len F more k)
        by_cases hgo : k < more.length ∧ k < F.length
        · obtain ⟨hlt, hlt2⟩ := hgo
          obtain ⟨b3, off3, hA, hblt, hc3⟩ := (HRM.out wr hbr).at_ (k := k) (by simpa using hlt)
          cases hA
          have d1 : wr.cell? ⟨b3, off3 + k, none⟩ = some (.int .u8 (more[k].toNat : Int)) := Reads.byte hc3 hlt
          obtain ⟨g, hg', hbg, hlg, hfz, hcl, hst⟩ := own_store (show wr.drew.ownsRow w2.heap.size 5 1 (.slice A6 F.length c6) F.length ((orTo F more k).map vb) from hown) (by omega)
          cases hg'
          have e := hcl k hlt2
          have fz := hfz k
          have st := hst k
          have HO : Hid (orTo F more (k + 1) = (orTo F more k).set k ((orTo F more k).getD k 0 ||| more[k])) := Lib.hid (by rw [orTo, List.getD, List.getD, List.getElem?_eq_getElem hlt]; rfl)
          have e2 : wr.cell? ⟨g, k, none⟩ = some (.int .u8 (((orTo F more k).getD k 0).toNat : Int)) := by
            have := hG.out
            refine e.trans ?_
            rw [List.getElem?_map, List.getElem?_eq_getElem (by omega), List.getD, List.getElem?_eq_getElem (by omega)]; rfl
          clear e hcl hfz hst hc3 hown
          generalize orTo F more k = G at HO e2 st hG
          generalize G.getD k 0 = y at HO e2
          generalize more[k] = z at d1 HO
          have HRow := Lib.hid (st (.int .u8 (bits .or .u8 (y.toNat : Int) (z.toNat : Int)))).1
          have hb4 : Below w2.heap.size w2 (wr.drew.setCell ⟨g, k, none⟩ (.int .u8 (bits .or .u8 (y.toNat : Int) (z.toNat : Int)))) := hbr.drew.setCell hbg _
          have ib1 : (k : Int) < (F.length : Int) := by omega
          have ib2 : (k : Int) < (more.length : Int) := by omega
          have HV := Lib.hid (or8 y z)
          clear st hbr
          go_wp2_with fail
          go_region
          go_wp2_with fail
          go_roundw
          case rel => exact ⟨k + 1, by omega, by omega, by go_num, by rw [HO.out, List.map_set, vb, ← HV.out]; exact HRow.out, hb4⟩
          case measure => simp [intOf]; omega
        · have hE : k = more.length ∨ (k < more.length ∧ k = F.length) := by omega
          have HGW : Hid (∀ x ∈ ws, has (orTo F more k) x.data.toList = true) := Lib.hid (fun x hx => has_more hG.out (fun q hq => orTo_bits F more q hq k hk2) (HFW.out x hx))
          have hRG0 := Reads.of_own hown
          have HRG := Lib.hid (fun w' (hb : Below wr.heap.size wr w') => (hRG0.below hb).more hb.size)
          have hG2 := hG.out
          generalize orTo F more k = G at HGW HRG hG2
          clear hRG0 hown hG hgo
          obtain ⟨W7, rfl⟩ : ∃ W7, W7 = wr := ⟨_, rfl⟩
          rcases hE with rfl | ⟨hk3, rfl⟩
          all_goals
            go_wp2_with fail
            go_loopw [12] (fun i wr' => ∃ k : Nat, k ≤ ws.length ∧ i = .int .i64 k ∧ Below W7.heap.size W7 wr') (fun i _ => ws.length - (intOf i).toNat)
            case atStart => exact ⟨0, Nat.zero_le _, rfl, Below.refl _ _⟩
            case round =>
              obtain ⟨j, hj, rfl, hbi⟩ := hrel
              have hb27 := hbr.trans (hbi.mono hsr)
              have hs27 := hb27.size
              rcases Nat.lt_or_ge j ws.length with hjl | hjg
              · obtain ⟨b5, off5, hA, hblt, hc5⟩ := (HRW.out wr hb27).at_ (k := j) (by simpa using hjl)
                have d1 : wr.cell? ⟨b5, off5 + j, none⟩ = some (.string ws[j]) := hc5 j _ (by simp [hjl])
                have D2 := Lib.hid (fun w8 (hb : Below wr.heap.size wr w8) => (hb.cell (show b5 < wr.heap.size by omega)).trans d1)
                cases hA
                have H1 := HFW.out ws[j] (List.getElem_mem _)
                have H2 := HGW.out ws[j] (List.getElem_mem _)
                have hsz := HS.out ws[j] (List.getElem_mem _)
                clear hc5
                generalize ws[j] = x at d1 D2 H1 H2 hsz
                have C1 := has_any F A1 c1 x wr (HR.out wr hb27) (by omega) hsz
                rw [H1] at C1
                have C1' := Lib.hid C1
                have C2 := Lib.hid (fun w8 (hb : Below wr.heap.size wr w8) => (by
                  have h := has_any G A6 c6 x w8 (HRG.out w8 (hbi.trans (hb.mono hbi.size))) (by omega) hsz
                  rw [H2, hG2] at h
                  exact h : Calls Try.prog 14 #[.slice A6 F.length c6, .string x] w8 fun e w' => e = .returned (.bool true) ∧ Below w8.heap.size w8 w'))
                clear C1 H1 H2
                go_wp2_with fail
                refine C1'.out.mono ?_
                rintro e w8 ⟨rfl, hb8⟩
                have d2 := D2.out w8 hb8
                go_wp2_with fail
                refine (C2.out w8 hb8).mono ?_
                rintro e w9 ⟨rfl, hb9⟩
                go_wp2_with fail
                go_roundw
                case rel => exact ⟨j + 1, by omega, by go_num, (hbi.trans (hb8.mono hbi.size)).trans (hb9.mono (Nat.le_trans hbi.size hb8.size))⟩
                case measure => simp [intOf]; omega
              · obtain rfl : j = ws.length := by omega
                go_wp2_with fail
                go_ret
                exact ⟨rfl, HB2.out.trans (hb27.mono (Nat.le_trans hs1 hs2))⟩
  · have hd : ws.drop K = [] := List.drop_eq_nil_of_le hKg
    obtain rfl : K = ws.length := by omega
    go_wp2_with (at_builtin; go_must (refine app rowStr rfl _ _ rfl w2.heap.size _ 0 [] rfl (World.ownsRow_nil _ _ _ _) w2.heap.size _ 0 _ [] rfl rfl Reads.nil_ (by simp) (by omega) (by simp) ?_))
    all_goals
      intro v3 w3 hown3 hg3
      have hb3 : Below w2.heap.size w2 w3 := hg3.below (Below.refl _ _) (World.ownsRow_nil _ _ 9 _) (by simp)
      have hs3 := hb3.size
      clear hg3 hk
      go_wp2_with (at_builtin; go_must (refine app rowStr rfl _ _ rfl w2.heap.size _ _ _ rfl (by exact hown3) w2.heap.size _ _ _ (ws.map vs) rfl (by simp) (by exact hr2.below hb3) (oneCell_vs _) (by omega) hs3 ?_))
      intro v4 w4 hown4 hg4
      have hb4 := hg4.below hb3 hown3 hs3
      have hs4 := hb4.size
      obtain ⟨A4, c4, rfl, -⟩ := own_slice hown4
      have hR4 := Reads.of_own hown4
      have HMT := make_any (ws.drop ws.length ++ ws) A4 c4 w4.drew (by simpa using hR4.drew) (by rw [List.length_append, List.length_drop]; omega) (fun s hs => by
        rcases List.mem_append.1 hs with h | h
        · exact HS.out s (List.mem_of_mem_drop h)
        · exact HS.out s h)
      have hsame : make (bl (ws.drop ws.length ++ ws)) = make (bl ws) := make_same (fun l => by
        simp only [bl, List.map_append, List.mem_append]
        constructor
        · rintro (h | h)
          · rw [List.map_drop] at h; exact List.mem_of_mem_drop h
          · exact h
        · exact .inr)
      have hL : (ws.drop ws.length ++ ws).length = ws.length := by simp
      rw [hsame, hL] at HMT
      have HFW : Hid (∀ x ∈ ws, has (make (bl ws)) x.data.toList = true) := Lib.hid (fun x hx => has_make (List.mem_map.2 ⟨x, hx, rfl⟩))
      clear hsame hL hg4 hown3 hb3 hs3 hR4 hown4
      generalize make (bl ws) = F at hown hlen hR HMT HFW ⊢
      have e1 : (convert 23 9 (.slice A1 F.length c1)).run Try.prog w4.drew = .ok (.string ⟨F.toArray⟩) w4.drew := run_str ((hR.below hb4).drew) rfl
      have HR := Lib.hid (fun w' (hb : Below w2.heap.size w2 w') => (hR.below hb).more hb.size)
      have HRW := Lib.hid (fun w' (hb : Below w2.heap.size w2 w') => hr2.below hb)
      have HRM := Lib.hid (fun w' (hb : Below w2.heap.size w2 w') => hr'.below (hB2.trans (hb.mono (Nat.le_trans hs1 hs2))))
      have HB2 := Lib.hid hB2
      clear hr hr' hr1 hr2 hb1 hb2 hB2 hown
      go_wp2_with fail
      go_region_with (first
        | (go_at_call 12; refine HMT.mono ?_; rintro e w5 ⟨v, rfl, hown5, hb5⟩; obtain ⟨A5, c5, rfl, -⟩ := own_slice hown5; have e2 := run_str (c := c5) (Reads.of_own hown5) rfl; have e3 := run_str (A := A1) (c := c1) (w := w5) (hR.below (hb4.drew.trans (hb5.mono hs4))) rfl))
      all_goals
        have hb25 := hb4.drew.trans (hb5.mono hs4)
        have hs5 := hb25.size
        clear hown5 e2 e3
        go_wp2_with (at_builtin; go_must (refine app rowByte rfl (.tmp 39) (.tmp 40) rfl w5.heap.size _ _ _ rfl (World.ownsRow_lit (size := 1) w5 #[] 0 (Nat.le_refl _) (by decide) rfl) w2.heap.size _ _ _ (F.map vb) rfl (by simp) (by exact (hR.below hb25).alloc hs5 _) (oneCell_vb _) (by omega) (by simp) ?_))
        intro v6 w6 hown6 hg6
        have hl0 := World.ownsRow_lit (base := w5.heap.size) (e := 5) (size := 1) w5 #[] 0 (Nat.le_refl _) (by decide) rfl
        have hb6 : Below w5.heap.size w5 w6 := hg6.below ((Below.refl _ _).alloc (Nat.le_refl _) _) hl0 (by simp)
        have hb26 := hb25.trans (hb6.mono hs5)
        have hown7 := own_base hown6 hs5
        obtain ⟨A6, c6, rfl, -⟩ := own_slice hown7
        clear hg6 hl0 hb6 hown6
        go_wp2_with fail
        go_loopw [11] (fun i wr => ∃ k : Nat, k ≤ more.length ∧ k ≤ F.length ∧ i = .int .i64 k ∧ wr.ownsRow w2.heap.size 5 1 (.slice A6 F.length c6) F.length ((orTo F more k).map vb) ∧ Below w2.heap.size w2 wr) (fun i _ => more.length - (intOf i).toNat)
        case atStart => exact ⟨0, by omega, by omega, rfl, hown7, hb26⟩
        case round =>
          clear hown7 hb26 hb25 hb5 hb4
          obtain ⟨k, hk1, hk2, rfl, hown, hbr⟩ := hrel
          have hsr := hbr.size
          have hG := Lib.hid (orTo_len F more k)
          by_cases hgo : k < more.length ∧ k < F.length
          · obtain ⟨hlt, hlt2⟩ := hgo
            obtain ⟨b3, off3, hA, hblt, hc3⟩ := (HRM.out wr hbr).at_ (k := k) (by simpa using hlt)
            cases hA
            have d1 : wr.cell? ⟨b3, off3 + k, none⟩ = some (.int .u8 (more[k].toNat : Int)) := Reads.byte hc3 hlt
            obtain ⟨g, hg', hbg, hlg, hfz, hcl, hst⟩ := own_store (show wr.drew.ownsRow w2.heap.size 5 1 (.slice A6 F.length c6) F.length ((orTo F more k).map vb) from hown) (by omega)
            cases hg'
            have e := hcl k hlt2
            have fz := hfz k
            have st := hst k
            have HO : Hid (orTo F more (k + 1) = (orTo F more k).set k ((orTo F more k).getD k 0 ||| more[k])) := Lib.hid (by rw [orTo, List.getD, List.getD, List.getElem?_eq_getElem hlt]; rfl)
            have e2 : wr.cell? ⟨g, k, none⟩ = some (.int .u8 (((orTo F more k).getD k 0).toNat : Int)) := by
              have := hG.out
              refine e.trans ?_
              rw [List.getElem?_map, List.getElem?_eq_getElem (by omega), List.getD, List.getElem?_eq_getElem (by omega)]; rfl
            clear e hcl hfz hst hc3 hown
            generalize orTo F more k = G at HO e2 st hG
            generalize G.getD k 0 = y at HO e2
            generalize more[k] = z at d1 HO
            have HRow := Lib.hid (st (.int .u8 (bits .or .u8 (y.toNat : Int) (z.toNat : Int)))).1
            have hb4 : Below w2.heap.size w2 (wr.drew.setCell ⟨g, k, none⟩ (.int .u8 (bits .or .u8 (y.toNat : Int) (z.toNat : Int)))) := hbr.drew.setCell hbg _
            have ib1 : (k : Int) < (F.length : Int) := by omega
            have ib2 : (k : Int) < (more.length : Int) := by omega
            have HV := Lib.hid (or8 y z)
            clear st hbr
            go_wp2_with fail
            go_region
            go_wp2_with fail
            go_roundw
            case rel => exact ⟨k + 1, by omega, by omega, by go_num, by rw [HO.out, List.map_set, vb, ← HV.out]; exact HRow.out, hb4⟩
            case measure => simp [intOf]; omega
          · have hE : k = more.length ∨ (k < more.length ∧ k = F.length) := by omega
            have HGW : Hid (∀ x ∈ ws, has (orTo F more k) x.data.toList = true) := Lib.hid (fun x hx => has_more hG.out (fun q hq => orTo_bits F more q hq k hk2) (HFW.out x hx))
            have hRG0 := Reads.of_own hown
            have HRG := Lib.hid (fun w' (hb : Below wr.heap.size wr w') => (hRG0.below hb).more hb.size)
            have hG2 := hG.out
            generalize orTo F more k = G at HGW HRG hG2
            clear hRG0 hown hG hgo
            obtain ⟨W7, rfl⟩ : ∃ W7, W7 = wr := ⟨_, rfl⟩
            rcases hE with rfl | ⟨hk3, rfl⟩
            all_goals
              go_wp2_with fail
              go_loopw [12] (fun i wr' => ∃ k : Nat, k ≤ ws.length ∧ i = .int .i64 k ∧ Below W7.heap.size W7 wr') (fun i _ => ws.length - (intOf i).toNat)
              case atStart => exact ⟨0, Nat.zero_le _, rfl, Below.refl _ _⟩
              case round =>
                obtain ⟨j, hj, rfl, hbi⟩ := hrel
                have hb27 := hbr.trans (hbi.mono hsr)
                have hs27 := hb27.size
                rcases Nat.lt_or_ge j ws.length with hjl | hjg
                · obtain ⟨b5, off5, hA, hblt, hc5⟩ := (HRW.out wr hb27).at_ (k := j) (by simpa using hjl)
                  have d1 : wr.cell? ⟨b5, off5 + j, none⟩ = some (.string ws[j]) := hc5 j _ (by simp [hjl])
                  have D2 := Lib.hid (fun w8 (hb : Below wr.heap.size wr w8) => (hb.cell (show b5 < wr.heap.size by omega)).trans d1)
                  cases hA
                  have H1 := HFW.out ws[j] (List.getElem_mem _)
                  have H2 := HGW.out ws[j] (List.getElem_mem _)
                  have hsz := HS.out ws[j] (List.getElem_mem _)
                  clear hc5
                  generalize ws[j] = x at d1 D2 H1 H2 hsz
                  have C1 := has_any F A1 c1 x wr (HR.out wr hb27) (by omega) hsz
                  rw [H1] at C1
                  have C1' := Lib.hid C1
                  have C2 := Lib.hid (fun w8 (hb : Below wr.heap.size wr w8) => (by
                    have h := has_any G A6 c6 x w8 (HRG.out w8 (hbi.trans (hb.mono hbi.size))) (by omega) hsz
                    rw [H2, hG2] at h
                    exact h : Calls Try.prog 14 #[.slice A6 F.length c6, .string x] w8 fun e w' => e = .returned (.bool true) ∧ Below w8.heap.size w8 w'))
                  clear C1 H1 H2
                  go_wp2_with fail
                  refine C1'.out.mono ?_
                  rintro e w8 ⟨rfl, hb8⟩
                  have d2 := D2.out w8 hb8
                  go_wp2_with fail
                  refine (C2.out w8 hb8).mono ?_
                  rintro e w9 ⟨rfl, hb9⟩
                  go_wp2_with fail
                  go_roundw
                  case rel => exact ⟨j + 1, by omega, by go_num, (hbi.trans (hb8.mono hbi.size)).trans (hb9.mono (Nat.le_trans hbi.size hb8.size))⟩
                  case measure => simp [intOf]; omega
                · obtain rfl : j = ws.length := by omega
                  go_wp2_with fail
                  go_ret
                  exact ⟨rfl, HB2.out.trans (hb27.mono (Nat.le_trans hs1 hs2))⟩
end Go.Proofs.Ytpfladolkkhfdaa
