/- PlanTiers: the walk, the first mark lower. -/
import Derived.Test.YtpfladolkkhfdaaPlanTiersM
namespace Go.Proofs.Ytpfladolkkhfdaa
set_option linter.unusedVariables false
open Go.RowKit

set_option maxHeartbeats 4000000 in
set_option maxRecDepth 100000 in
theorem planTiers_lt (n m : Int64) (l : List Sg) (A : Option Addr) (c : Nat) (p q : Int64) (w : World) (hr : Reads w w.heap.size A (segCells l)) (hl : l.length ≤ 7000000000000) (hmark : p.toInt < q.toInt) :
    Calls Try.prog 9 #[.agg #[vi n, vi m], .slice A l.length c, .agg #[vi p, vi q]] w fun e w' => e = .returned (.bool true) ∧ Below w.heap.size w w' := by
  have hn := i64_range n
  have hm := i64_range m
  generalize hN : n.toInt = N at hn
  generalize hM : m.toInt = M at hm
  simp only [vi, hN, hM]
  generalize p.toInt = lo1 at hmark ⊢
  generalize q.toInt = hi1 at hmark ⊢
  clear hN hM
  have hle : lo1 ≤ hi1 := by omega
  go_enter Try.func9, Try.ntmps9
  go_wp2_with fail
  refine (awake16_any _).mono ?_
  rintro e w1 ⟨rfl, hb1⟩
  have c0 : w1.cell? ⟨w.heap.size, 0, none⟩ = some (.int .i64 N) := (hb1.cell (by simp; omega)).trans (by rw [World.cell?_alloc_lt _ _ _ (by simp), World.cell?_alloc_new]; rfl)
  have c1 : w1.cell? ⟨w.heap.size, 1, none⟩ = some (.int .i64 M) := (hb1.cell (by simp; omega)).trans (by rw [World.cell?_alloc_lt _ _ _ (by simp), World.cell?_alloc_new]; rfl)
  have c2 : w1.cell? ⟨w.heap.size + 1, 0, none⟩ = some (.int .i64 lo1) := (hb1.cell (by simp)).trans (cell_alloc_at (by simp))
  have c3 : w1.cell? ⟨w.heap.size + 1, 1, none⟩ = some (.int .i64 hi1) := (hb1.cell (by simp)).trans (cell_alloc_at (by simp))
  have hbw : Below w.heap.size w w1 := (((Below.refl w.heap.size w).alloc (Nat.le_refl _) _).alloc (by simp) _).trans (hb1.mono (by simp; omega))
  have hs1 := hbw.size
  have hs1' : w.heap.size + 2 ≤ w1.heap.size := by have := hb1.size; simp at this; omega
  have hr1 := (hr.below hbw).more hs1
  clear hb1 hr
  go_wp2_with fail
  refine (tier_any N _ hn.1 hn.2).mono ?_
  rintro e w2 ⟨rfl, rfl⟩
  go_wp2_with fail
  refine (tier_any M _ hm.1 hm.2).mono ?_
  rintro e w2 ⟨rfl, rfl⟩
  obtain ⟨f1, f2, f3, f4, f5⟩ := tier_facts N M _ _ rfl rfl
  have f8 : (tier N : Int) ≤ 31 := by have := tier_le N hn.2; omega
  have f9 : (tier M : Int) ≤ 31 := by have := tier_le M hm.2; omega
  have f6 : 0 < N → (tier (4 * N) : Int) = tier N + 1 := fun h => by rw [tier_times h]; omega
  have f7 : 4 ≤ N → (tier (N / 4) : Int) = tier N - 1 := fun h => by rw [tier_ge (n := N) h]; omega
  have k1 : N < 1 ∨ (1 ≤ N ∧ N < 4) ∨ (4 ≤ N ∧ N < 1099511627776) ∨ 1099511627776 ≤ N := by omega
  have k2 : N < M ∨ N = M ∨ M < N := by omega
  have T2 := Lib.hid (fun h1 h2 => tier_any (4 * N) w1 h1 h2)
  have T3 := Lib.hid (fun h1 h2 => tier_any (N / 4) w1 h1 h2)
  generalize (tier N : Int) = a at f1 f2 f3 f4 f6 f7 f8 ⊢
  generalize (tier M : Int) = b at f1 f2 f5 f9 ⊢
  generalize (tier (4 * N) : Int) = a4 at f6 T2
  generalize (tier (N / 4) : Int) = ad at f7 T3
  rcases k1 with k1 | k1 | k1 | k1
  case inl =>
    have e0 : (a != 0) = false := by rw [f3 (by omega)]; rfl
    rcases k2 with k2 | rfl | k2
    · have g1 := f1 (by omega)
      have d1 : decide (a > b) = false := by simp; omega
      go_wp2_with fail
      clear T2 T3 f1 f2 f3 f4 f5 f6 f7 f8 f9 k1 k2
      have G1 := gone_any l A c lo1 w1 hr1 hl
      rw [gone_filter l hle] at G1
      have hlx : ((gone l hi1).filter (oldAt l lo1)).length ≤ 7000000000000 := Nat.le_trans (List.length_filter_le _ _) (Nat.le_trans (gone_len _ _) hl)
      generalize oldAt l lo1 = P at G1 hlx
      refine G1.mono ?_
      rintro e w2 ⟨v, rfl, hown, hb2⟩
      have hs2 := hb2.size
      obtain ⟨A2, cc2, rfl, -⟩ := own_slice hown
      have c2' := (hb2.cell (show w.heap.size + 1 < w1.heap.size by omega)).trans c2
      have c3' := (hb2.cell (show w.heap.size + 1 < w1.heap.size by omega)).trans c3
      go_wp2_with fail
      refine (gone_any l A c hi1 w2 ((hr1.below hb2).more hs2) hl).mono ?_
      rintro e w3 ⟨v, rfl, hown3, hb3⟩
      have hs3 := hb3.size
      obtain ⟨A3, cc3, rfl, -⟩ := own_slice hown3
      have hR2 := ((Reads.of_own hown).below hb3).more hs3
      have hR3 := Reads.of_own hown3
      have hr3 := (((hr1.below hb2).more hs2).below hb3).more hs3
      have hb03 := (hbw.trans (hb2.mono hs1)).trans (hb3.mono (Nat.le_trans hs1 hs2))
      have hly : (gone l hi1).length ≤ 7000000000000 := Nat.le_trans (gone_len _ _) hl
      have hgz : gone l (-9223372036854775808) = [] := goneTo_least l _
      have hGZ := gone_any l A c (-9223372036854775808)
      rw [hgz] at hGZ
      clear hb2 hb3 hown hown3 hr1 c0 c1 c2 c3 c2' c3' hgz G1
      generalize gone l hi1 = y at hlx hly hR2 hR3 ⊢
      go_wp2_with fail
      go_loopw [14, 15] (fun kk j wr => ∃ jn : Nat, jn ≤ y.length ∧ j = .int .i64 jn ∧ (∃ kn : Nat, kk = .int .i64 kn ∧ Hid (kn = ((y.take jn).filter P).length) ∧ kn ≤ (y.filter P).length) ∧ ∃ n, wr = w3.drewN n) (fun _ j _ => y.length - (intOf j).toNat)
      case atStart => exact ⟨0, Nat.zero_le _, rfl, ⟨0, rfl, Lib.hid rfl, Nat.zero_le _⟩, 0, rfl⟩
      case round =>
        obtain ⟨j, hj, rfl, ⟨k, rfl, HK, hkx⟩, n, rfl⟩ := hrel
        rcases Nat.lt_or_ge j y.length with hlt | hge
        · obtain ⟨b, off, rfl, _, hc⟩ := hR3.at_ (k := j) (by simpa using hlt)
          have d1 : w3.cell? ⟨b, off + j, none⟩ = some (.int .i64 y[j]) := hc j _ (by simp [hlt])
          clear hc
          by_cases hp : P y[j] = true
          · obtain ⟨h1, h2, h3⟩ := filter_step_yes hlt hp
            have h4 : k < (y.filter P).length := by rw [HK.out]; exact h2
            have h5 : (y.filter P)[k] = y[j] := by simp only [HK.out]; exact h3
            obtain ⟨b', off', rfl, _, hc'⟩ := hR2.at_ (k := k) (by simpa using h4)
            have d2 : w3.cell? ⟨b', off' + k, none⟩ = some (.int .i64 y[j]) := hc' k _ (by rw [List.getElem?_map, List.getElem?_eq_getElem h4, h5]; rfl)
            clear hc'
            have HK2 : Hid (k + 1 = ((y.take (j + 1)).filter P).length) := Lib.hid (by rw [h1, HK.out])
            clear h1 h2 h3 h5 hp
            generalize y[j] = z at d1 d2
            have hb : (z == z) = true := by simp
            go_wp2_with fail
            go_quiet (fail)
            go_wp2_with fail
            go_roundw
            case rel => exact ⟨j + 1, by omega, by go_num, ⟨k + 1, by go_num, HK2, by omega⟩, _, rfl⟩
            case measure => simp [intOf]; omega
          · obtain ⟨h1, h2⟩ := filter_step_no hlt (by simpa using hp)
            have HK2 : Hid (k = ((y.take (j + 1)).filter P).length) := Lib.hid (by rw [h1, HK.out])
            by_cases h4 : k < (y.filter P).length
            · have h5 := h2 k h4
              obtain ⟨b', off', rfl, _, hc'⟩ := hR2.at_ (k := k) (by simpa using h4)
              have d2 : w3.cell? ⟨b', off' + k, none⟩ = some (.int .i64 (y.filter P)[k]) := hc' k _ (by rw [List.getElem?_map, List.getElem?_eq_getElem h4]; rfl)
              clear hc' h1 h2 hp
              generalize y[j] = z at d1 h5
              generalize (y.filter P)[k] = z' at d2 h5
              have hb : (z' == z) = false := by simpa using h5
              clear h5
              go_wp2_with fail
              go_quiet (fail)
              go_wp2_with fail
              go_roundw
              case rel => exact ⟨j + 1, by omega, by go_num, ⟨k, rfl, HK2, by omega⟩, _, rfl⟩
              case measure => simp [intOf]; omega
            · have hk3 : (y.filter P).length ≤ k := by omega
              clear h1 h2 hp
              generalize y[j] = z at d1
              go_wp2_with fail
              go_quiet (fail)
              go_wp2_with fail
              go_roundw
              case rel => exact ⟨j + 1, by omega, by go_num, ⟨k, rfl, HK2, by omega⟩, _, rfl⟩
              case measure => simp [intOf]; omega
        · obtain rfl : j = y.length := by omega
          have hk : k = (y.filter P).length := by rw [HK.out, List.take_length]
          clear HK
          subst hk
          have hb : (((y.filter P).length : Int) == ((y.filter P).length : Int)) = true := by simp
          go_wp2_with fail
          refine (hGZ (w3.drewN n) (hr3.drewN n) hl).mono ?_
          rintro e w5 ⟨v, rfl, hown5, hb5⟩
          obtain ⟨A5, cc5, rfl, -⟩ := own_slice hown5
          go_wp2_with fail
          go_ret
          exact ⟨rfl, (below_drewN hb03).trans (hb5.mono (by simp; omega))⟩
    · have g1 := f1 (by omega)
      have g2 := f2 (by omega)
      have d1 : decide (a > b) = false := by simp; omega
      have d2 : decide (a < b) = false := by simp; omega
      go_wp2_with fail
      clear T2 T3 f1 f2 f3 f4 f5 f6 f7 f8 f9 k1
      have G1 := gone_any l A c lo1 w1 hr1 hl
      rw [gone_filter l hle] at G1
      have hlx : ((gone l hi1).filter (oldAt l lo1)).length ≤ 7000000000000 := Nat.le_trans (List.length_filter_le _ _) (Nat.le_trans (gone_len _ _) hl)
      generalize oldAt l lo1 = P at G1 hlx
      refine G1.mono ?_
      rintro e w2 ⟨v, rfl, hown, hb2⟩
      have hs2 := hb2.size
      obtain ⟨A2, cc2, rfl, -⟩ := own_slice hown
      have c2' := (hb2.cell (show w.heap.size + 1 < w1.heap.size by omega)).trans c2
      have c3' := (hb2.cell (show w.heap.size + 1 < w1.heap.size by omega)).trans c3
      go_wp2_with fail
      refine (gone_any l A c hi1 w2 ((hr1.below hb2).more hs2) hl).mono ?_
      rintro e w3 ⟨v, rfl, hown3, hb3⟩
      have hs3 := hb3.size
      obtain ⟨A3, cc3, rfl, -⟩ := own_slice hown3
      have hR2 := ((Reads.of_own hown).below hb3).more hs3
      have hR3 := Reads.of_own hown3
      have hr3 := (((hr1.below hb2).more hs2).below hb3).more hs3
      have hb03 := (hbw.trans (hb2.mono hs1)).trans (hb3.mono (Nat.le_trans hs1 hs2))
      have hly : (gone l hi1).length ≤ 7000000000000 := Nat.le_trans (gone_len _ _) hl
      have hgz : gone l (-9223372036854775808) = [] := goneTo_least l _
      have hGZ := gone_any l A c (-9223372036854775808)
      rw [hgz] at hGZ
      clear hb2 hb3 hown hown3 hr1 c0 c1 c2 c3 c2' c3' hgz G1
      generalize gone l hi1 = y at hlx hly hR2 hR3 ⊢
      go_wp2_with fail
      go_loopw [14, 15] (fun kk j wr => ∃ jn : Nat, jn ≤ y.length ∧ j = .int .i64 jn ∧ (∃ kn : Nat, kk = .int .i64 kn ∧ Hid (kn = ((y.take jn).filter P).length) ∧ kn ≤ (y.filter P).length) ∧ ∃ n, wr = w3.drewN n) (fun _ j _ => y.length - (intOf j).toNat)
      case atStart => exact ⟨0, Nat.zero_le _, rfl, ⟨0, rfl, Lib.hid rfl, Nat.zero_le _⟩, 0, rfl⟩
      case round =>
        obtain ⟨j, hj, rfl, ⟨k, rfl, HK, hkx⟩, n, rfl⟩ := hrel
        rcases Nat.lt_or_ge j y.length with hlt | hge
        · obtain ⟨b, off, rfl, _, hc⟩ := hR3.at_ (k := j) (by simpa using hlt)
          have d1 : w3.cell? ⟨b, off + j, none⟩ = some (.int .i64 y[j]) := hc j _ (by simp [hlt])
          clear hc
          by_cases hp : P y[j] = true
          · obtain ⟨h1, h2, h3⟩ := filter_step_yes hlt hp
            have h4 : k < (y.filter P).length := by rw [HK.out]; exact h2
            have h5 : (y.filter P)[k] = y[j] := by simp only [HK.out]; exact h3
            obtain ⟨b', off', rfl, _, hc'⟩ := hR2.at_ (k := k) (by simpa using h4)
            have d2 : w3.cell? ⟨b', off' + k, none⟩ = some (.int .i64 y[j]) := hc' k _ (by rw [List.getElem?_map, List.getElem?_eq_getElem h4, h5]; rfl)
            clear hc'
            have HK2 : Hid (k + 1 = ((y.take (j + 1)).filter P).length) := Lib.hid (by rw [h1, HK.out])
            clear h1 h2 h3 h5 hp
            generalize y[j] = z at d1 d2
            have hb : (z == z) = true := by simp
            go_wp2_with fail
            go_quiet (fail)
            go_wp2_with fail
            go_roundw
            case rel => exact ⟨j + 1, by omega, by go_num, ⟨k + 1, by go_num, HK2, by omega⟩, _, rfl⟩
            case measure => simp [intOf]; omega
          · obtain ⟨h1, h2⟩ := filter_step_no hlt (by simpa using hp)
            have HK2 : Hid (k = ((y.take (j + 1)).filter P).length) := Lib.hid (by rw [h1, HK.out])
            by_cases h4 : k < (y.filter P).length
            · have h5 := h2 k h4
              obtain ⟨b', off', rfl, _, hc'⟩ := hR2.at_ (k := k) (by simpa using h4)
              have d2 : w3.cell? ⟨b', off' + k, none⟩ = some (.int .i64 (y.filter P)[k]) := hc' k _ (by rw [List.getElem?_map, List.getElem?_eq_getElem h4]; rfl)
              clear hc' h1 h2 hp
              generalize y[j] = z at d1 h5
              generalize (y.filter P)[k] = z' at d2 h5
              have hb : (z' == z) = false := by simpa using h5
              clear h5
              go_wp2_with fail
              go_quiet (fail)
              go_wp2_with fail
              go_roundw
              case rel => exact ⟨j + 1, by omega, by go_num, ⟨k, rfl, HK2, by omega⟩, _, rfl⟩
              case measure => simp [intOf]; omega
            · have hk3 : (y.filter P).length ≤ k := by omega
              clear h1 h2 hp
              generalize y[j] = z at d1
              go_wp2_with fail
              go_quiet (fail)
              go_wp2_with fail
              go_roundw
              case rel => exact ⟨j + 1, by omega, by go_num, ⟨k, rfl, HK2, by omega⟩, _, rfl⟩
              case measure => simp [intOf]; omega
        · obtain rfl : j = y.length := by omega
          have hk : k = (y.filter P).length := by rw [HK.out, List.take_length]
          clear HK
          subst hk
          have hb : (((y.filter P).length : Int) == ((y.filter P).length : Int)) = true := by simp
          go_wp2_with fail
          refine (hGZ (w3.drewN n) (hr3.drewN n) hl).mono ?_
          rintro e w5 ⟨v, rfl, hown5, hb5⟩
          obtain ⟨A5, cc5, rfl, -⟩ := own_slice hown5
          go_wp2_with fail
          go_ret
          exact ⟨rfl, (below_drewN hb03).trans (hb5.mono (by simp; omega))⟩
    · have g2 := f2 (by omega)
      have d2 : decide (a < b) = false := by simp; omega
      go_wp2_with fail
      clear T2 T3 f1 f2 f3 f4 f5 f6 f7 f8 f9 k1 k2
      have G1 := gone_any l A c lo1 w1 hr1 hl
      rw [gone_filter l hle] at G1
      have hlx : ((gone l hi1).filter (oldAt l lo1)).length ≤ 7000000000000 := Nat.le_trans (List.length_filter_le _ _) (Nat.le_trans (gone_len _ _) hl)
      generalize oldAt l lo1 = P at G1 hlx
      refine G1.mono ?_
      rintro e w2 ⟨v, rfl, hown, hb2⟩
      have hs2 := hb2.size
      obtain ⟨A2, cc2, rfl, -⟩ := own_slice hown
      have c2' := (hb2.cell (show w.heap.size + 1 < w1.heap.size by omega)).trans c2
      have c3' := (hb2.cell (show w.heap.size + 1 < w1.heap.size by omega)).trans c3
      go_wp2_with fail
      refine (gone_any l A c hi1 w2 ((hr1.below hb2).more hs2) hl).mono ?_
      rintro e w3 ⟨v, rfl, hown3, hb3⟩
      have hs3 := hb3.size
      obtain ⟨A3, cc3, rfl, -⟩ := own_slice hown3
      have hR2 := ((Reads.of_own hown).below hb3).more hs3
      have hR3 := Reads.of_own hown3
      have hr3 := (((hr1.below hb2).more hs2).below hb3).more hs3
      have hb03 := (hbw.trans (hb2.mono hs1)).trans (hb3.mono (Nat.le_trans hs1 hs2))
      have hly : (gone l hi1).length ≤ 7000000000000 := Nat.le_trans (gone_len _ _) hl
      have hgz : gone l (-9223372036854775808) = [] := goneTo_least l _
      have hGZ := gone_any l A c (-9223372036854775808)
      rw [hgz] at hGZ
      clear hb2 hb3 hown hown3 hr1 c0 c1 c2 c3 c2' c3' hgz G1
      generalize gone l hi1 = y at hlx hly hR2 hR3 ⊢
      go_wp2_with fail
      go_loopw [14, 15] (fun kk j wr => ∃ jn : Nat, jn ≤ y.length ∧ j = .int .i64 jn ∧ (∃ kn : Nat, kk = .int .i64 kn ∧ Hid (kn = ((y.take jn).filter P).length) ∧ kn ≤ (y.filter P).length) ∧ ∃ n, wr = w3.drewN n) (fun _ j _ => y.length - (intOf j).toNat)
      case atStart => exact ⟨0, Nat.zero_le _, rfl, ⟨0, rfl, Lib.hid rfl, Nat.zero_le _⟩, 0, rfl⟩
      case round =>
        obtain ⟨j, hj, rfl, ⟨k, rfl, HK, hkx⟩, n, rfl⟩ := hrel
        rcases Nat.lt_or_ge j y.length with hlt | hge
        · obtain ⟨b, off, rfl, _, hc⟩ := hR3.at_ (k := j) (by simpa using hlt)
          have d1 : w3.cell? ⟨b, off + j, none⟩ = some (.int .i64 y[j]) := hc j _ (by simp [hlt])
          clear hc
          by_cases hp : P y[j] = true
          · obtain ⟨h1, h2, h3⟩ := filter_step_yes hlt hp
            have h4 : k < (y.filter P).length := by rw [HK.out]; exact h2
            have h5 : (y.filter P)[k] = y[j] := by simp only [HK.out]; exact h3
            obtain ⟨b', off', rfl, _, hc'⟩ := hR2.at_ (k := k) (by simpa using h4)
            have d2 : w3.cell? ⟨b', off' + k, none⟩ = some (.int .i64 y[j]) := hc' k _ (by rw [List.getElem?_map, List.getElem?_eq_getElem h4, h5]; rfl)
            clear hc'
            have HK2 : Hid (k + 1 = ((y.take (j + 1)).filter P).length) := Lib.hid (by rw [h1, HK.out])
            clear h1 h2 h3 h5 hp
            generalize y[j] = z at d1 d2
            have hb : (z == z) = true := by simp
            go_wp2_with fail
            go_quiet (fail)
            go_wp2_with fail
            go_roundw
            case rel => exact ⟨j + 1, by omega, by go_num, ⟨k + 1, by go_num, HK2, by omega⟩, _, rfl⟩
            case measure => simp [intOf]; omega
          · obtain ⟨h1, h2⟩ := filter_step_no hlt (by simpa using hp)
            have HK2 : Hid (k = ((y.take (j + 1)).filter P).length) := Lib.hid (by rw [h1, HK.out])
            by_cases h4 : k < (y.filter P).length
            · have h5 := h2 k h4
              obtain ⟨b', off', rfl, _, hc'⟩ := hR2.at_ (k := k) (by simpa using h4)
              have d2 : w3.cell? ⟨b', off' + k, none⟩ = some (.int .i64 (y.filter P)[k]) := hc' k _ (by rw [List.getElem?_map, List.getElem?_eq_getElem h4]; rfl)
              clear hc' h1 h2 hp
              generalize y[j] = z at d1 h5
              generalize (y.filter P)[k] = z' at d2 h5
              have hb : (z' == z) = false := by simpa using h5
              clear h5
              go_wp2_with fail
              go_quiet (fail)
              go_wp2_with fail
              go_roundw
              case rel => exact ⟨j + 1, by omega, by go_num, ⟨k, rfl, HK2, by omega⟩, _, rfl⟩
              case measure => simp [intOf]; omega
            · have hk3 : (y.filter P).length ≤ k := by omega
              clear h1 h2 hp
              generalize y[j] = z at d1
              go_wp2_with fail
              go_quiet (fail)
              go_wp2_with fail
              go_roundw
              case rel => exact ⟨j + 1, by omega, by go_num, ⟨k, rfl, HK2, by omega⟩, _, rfl⟩
              case measure => simp [intOf]; omega
        · obtain rfl : j = y.length := by omega
          have hk : k = (y.filter P).length := by rw [HK.out, List.take_length]
          clear HK
          subst hk
          have hb : (((y.filter P).length : Int) == ((y.filter P).length : Int)) = true := by simp
          go_wp2_with fail
          refine (hGZ (w3.drewN n) (hr3.drewN n) hl).mono ?_
          rintro e w5 ⟨v, rfl, hown5, hb5⟩
          obtain ⟨A5, cc5, rfl, -⟩ := own_slice hown5
          go_wp2_with fail
          go_ret
          exact ⟨rfl, (below_drewN hb03).trans (hb5.mono (by simp; omega))⟩
  case inr.inl =>
    have f6' := f6 (by omega)
    subst f6'
    rcases k2 with k2 | rfl | k2
    · have g1 := f1 (by omega)
      have d1 : decide (a > b) = false := by simp; omega
      go_wp2_with fail
      refine (T2.out (by omega) (by omega)).mono ?_
      rintro e w2 ⟨rfl, rfl⟩
      go_wp2_with fail
      clear T2 T3 f1 f2 f3 f4 f5 f6 f7 f8 f9 k1 k2
      have G1 := gone_any l A c lo1 w1 hr1 hl
      rw [gone_filter l hle] at G1
      have hlx : ((gone l hi1).filter (oldAt l lo1)).length ≤ 7000000000000 := Nat.le_trans (List.length_filter_le _ _) (Nat.le_trans (gone_len _ _) hl)
      generalize oldAt l lo1 = P at G1 hlx
      refine G1.mono ?_
      rintro e w2 ⟨v, rfl, hown, hb2⟩
      have hs2 := hb2.size
      obtain ⟨A2, cc2, rfl, -⟩ := own_slice hown
      have c2' := (hb2.cell (show w.heap.size + 1 < w1.heap.size by omega)).trans c2
      have c3' := (hb2.cell (show w.heap.size + 1 < w1.heap.size by omega)).trans c3
      go_wp2_with fail
      refine (gone_any l A c hi1 w2 ((hr1.below hb2).more hs2) hl).mono ?_
      rintro e w3 ⟨v, rfl, hown3, hb3⟩
      have hs3 := hb3.size
      obtain ⟨A3, cc3, rfl, -⟩ := own_slice hown3
      have hR2 := ((Reads.of_own hown).below hb3).more hs3
      have hR3 := Reads.of_own hown3
      have hr3 := (((hr1.below hb2).more hs2).below hb3).more hs3
      have hb03 := (hbw.trans (hb2.mono hs1)).trans (hb3.mono (Nat.le_trans hs1 hs2))
      have hly : (gone l hi1).length ≤ 7000000000000 := Nat.le_trans (gone_len _ _) hl
      have hgz : gone l (-9223372036854775808) = [] := goneTo_least l _
      have hGZ := gone_any l A c (-9223372036854775808)
      rw [hgz] at hGZ
      clear hb2 hb3 hown hown3 hr1 c0 c1 c2 c3 c2' c3' hgz G1
      generalize gone l hi1 = y at hlx hly hR2 hR3 ⊢
      go_wp2_with fail
      go_loopw [14, 15] (fun kk j wr => ∃ jn : Nat, jn ≤ y.length ∧ j = .int .i64 jn ∧ (∃ kn : Nat, kk = .int .i64 kn ∧ Hid (kn = ((y.take jn).filter P).length) ∧ kn ≤ (y.filter P).length) ∧ ∃ n, wr = w3.drewN n) (fun _ j _ => y.length - (intOf j).toNat)
      case atStart => exact ⟨0, Nat.zero_le _, rfl, ⟨0, rfl, Lib.hid rfl, Nat.zero_le _⟩, 0, rfl⟩
      case round =>
        obtain ⟨j, hj, rfl, ⟨k, rfl, HK, hkx⟩, n, rfl⟩ := hrel
        rcases Nat.lt_or_ge j y.length with hlt | hge
        · obtain ⟨b, off, rfl, _, hc⟩ := hR3.at_ (k := j) (by simpa using hlt)
          have d1 : w3.cell? ⟨b, off + j, none⟩ = some (.int .i64 y[j]) := hc j _ (by simp [hlt])
          clear hc
          by_cases hp : P y[j] = true
          · obtain ⟨h1, h2, h3⟩ := filter_step_yes hlt hp
            have h4 : k < (y.filter P).length := by rw [HK.out]; exact h2
            have h5 : (y.filter P)[k] = y[j] := by simp only [HK.out]; exact h3
            obtain ⟨b', off', rfl, _, hc'⟩ := hR2.at_ (k := k) (by simpa using h4)
            have d2 : w3.cell? ⟨b', off' + k, none⟩ = some (.int .i64 y[j]) := hc' k _ (by rw [List.getElem?_map, List.getElem?_eq_getElem h4, h5]; rfl)
            clear hc'
            have HK2 : Hid (k + 1 = ((y.take (j + 1)).filter P).length) := Lib.hid (by rw [h1, HK.out])
            clear h1 h2 h3 h5 hp
            generalize y[j] = z at d1 d2
            have hb : (z == z) = true := by simp
            go_wp2_with fail
            go_quiet (fail)
            go_wp2_with fail
            go_roundw
            case rel => exact ⟨j + 1, by omega, by go_num, ⟨k + 1, by go_num, HK2, by omega⟩, _, rfl⟩
            case measure => simp [intOf]; omega
          · obtain ⟨h1, h2⟩ := filter_step_no hlt (by simpa using hp)
            have HK2 : Hid (k = ((y.take (j + 1)).filter P).length) := Lib.hid (by rw [h1, HK.out])
            by_cases h4 : k < (y.filter P).length
            · have h5 := h2 k h4
              obtain ⟨b', off', rfl, _, hc'⟩ := hR2.at_ (k := k) (by simpa using h4)
              have d2 : w3.cell? ⟨b', off' + k, none⟩ = some (.int .i64 (y.filter P)[k]) := hc' k _ (by rw [List.getElem?_map, List.getElem?_eq_getElem h4]; rfl)
              clear hc' h1 h2 hp
              generalize y[j] = z at d1 h5
              generalize (y.filter P)[k] = z' at d2 h5
              have hb : (z' == z) = false := by simpa using h5
              clear h5
              go_wp2_with fail
              go_quiet (fail)
              go_wp2_with fail
              go_roundw
              case rel => exact ⟨j + 1, by omega, by go_num, ⟨k, rfl, HK2, by omega⟩, _, rfl⟩
              case measure => simp [intOf]; omega
            · have hk3 : (y.filter P).length ≤ k := by omega
              clear h1 h2 hp
              generalize y[j] = z at d1
              go_wp2_with fail
              go_quiet (fail)
              go_wp2_with fail
              go_roundw
              case rel => exact ⟨j + 1, by omega, by go_num, ⟨k, rfl, HK2, by omega⟩, _, rfl⟩
              case measure => simp [intOf]; omega
        · obtain rfl : j = y.length := by omega
          have hk : k = (y.filter P).length := by rw [HK.out, List.take_length]
          clear HK
          subst hk
          have hb : (((y.filter P).length : Int) == ((y.filter P).length : Int)) = true := by simp
          go_wp2_with fail
          refine (hGZ (w3.drewN n) (hr3.drewN n) hl).mono ?_
          rintro e w5 ⟨v, rfl, hown5, hb5⟩
          obtain ⟨A5, cc5, rfl, -⟩ := own_slice hown5
          go_wp2_with fail
          go_ret
          exact ⟨rfl, (below_drewN hb03).trans (hb5.mono (by simp; omega))⟩
    · have g1 := f1 (by omega)
      have g2 := f2 (by omega)
      have d1 : decide (a > b) = false := by simp; omega
      have d2 : decide (a < b) = false := by simp; omega
      go_wp2_with fail
      refine (T2.out (by omega) (by omega)).mono ?_
      rintro e w2 ⟨rfl, rfl⟩
      go_wp2_with fail
      clear T2 T3 f1 f2 f3 f4 f5 f6 f7 f8 f9 k1
      have G1 := gone_any l A c lo1 w1 hr1 hl
      rw [gone_filter l hle] at G1
      have hlx : ((gone l hi1).filter (oldAt l lo1)).length ≤ 7000000000000 := Nat.le_trans (List.length_filter_le _ _) (Nat.le_trans (gone_len _ _) hl)
      generalize oldAt l lo1 = P at G1 hlx
      refine G1.mono ?_
      rintro e w2 ⟨v, rfl, hown, hb2⟩
      have hs2 := hb2.size
      obtain ⟨A2, cc2, rfl, -⟩ := own_slice hown
      have c2' := (hb2.cell (show w.heap.size + 1 < w1.heap.size by omega)).trans c2
      have c3' := (hb2.cell (show w.heap.size + 1 < w1.heap.size by omega)).trans c3
      go_wp2_with fail
      refine (gone_any l A c hi1 w2 ((hr1.below hb2).more hs2) hl).mono ?_
      rintro e w3 ⟨v, rfl, hown3, hb3⟩
      have hs3 := hb3.size
      obtain ⟨A3, cc3, rfl, -⟩ := own_slice hown3
      have hR2 := ((Reads.of_own hown).below hb3).more hs3
      have hR3 := Reads.of_own hown3
      have hr3 := (((hr1.below hb2).more hs2).below hb3).more hs3
      have hb03 := (hbw.trans (hb2.mono hs1)).trans (hb3.mono (Nat.le_trans hs1 hs2))
      have hly : (gone l hi1).length ≤ 7000000000000 := Nat.le_trans (gone_len _ _) hl
      have hgz : gone l (-9223372036854775808) = [] := goneTo_least l _
      have hGZ := gone_any l A c (-9223372036854775808)
      rw [hgz] at hGZ
      clear hb2 hb3 hown hown3 hr1 c0 c1 c2 c3 c2' c3' hgz G1
      generalize gone l hi1 = y at hlx hly hR2 hR3 ⊢
      go_wp2_with fail
      go_loopw [14, 15] (fun kk j wr => ∃ jn : Nat, jn ≤ y.length ∧ j = .int .i64 jn ∧ (∃ kn : Nat, kk = .int .i64 kn ∧ Hid (kn = ((y.take jn).filter P).length) ∧ kn ≤ (y.filter P).length) ∧ ∃ n, wr = w3.drewN n) (fun _ j _ => y.length - (intOf j).toNat)
      case atStart => exact ⟨0, Nat.zero_le _, rfl, ⟨0, rfl, Lib.hid rfl, Nat.zero_le _⟩, 0, rfl⟩
      case round =>
        obtain ⟨j, hj, rfl, ⟨k, rfl, HK, hkx⟩, n, rfl⟩ := hrel
        rcases Nat.lt_or_ge j y.length with hlt | hge
        · obtain ⟨b, off, rfl, _, hc⟩ := hR3.at_ (k := j) (by simpa using hlt)
          have d1 : w3.cell? ⟨b, off + j, none⟩ = some (.int .i64 y[j]) := hc j _ (by simp [hlt])
          clear hc
          by_cases hp : P y[j] = true
          · obtain ⟨h1, h2, h3⟩ := filter_step_yes hlt hp
            have h4 : k < (y.filter P).length := by rw [HK.out]; exact h2
            have h5 : (y.filter P)[k] = y[j] := by simp only [HK.out]; exact h3
            obtain ⟨b', off', rfl, _, hc'⟩ := hR2.at_ (k := k) (by simpa using h4)
            have d2 : w3.cell? ⟨b', off' + k, none⟩ = some (.int .i64 y[j]) := hc' k _ (by rw [List.getElem?_map, List.getElem?_eq_getElem h4, h5]; rfl)
            clear hc'
            have HK2 : Hid (k + 1 = ((y.take (j + 1)).filter P).length) := Lib.hid (by rw [h1, HK.out])
            clear h1 h2 h3 h5 hp
            generalize y[j] = z at d1 d2
            have hb : (z == z) = true := by simp
            go_wp2_with fail
            go_quiet (fail)
            go_wp2_with fail
            go_roundw
            case rel => exact ⟨j + 1, by omega, by go_num, ⟨k + 1, by go_num, HK2, by omega⟩, _, rfl⟩
            case measure => simp [intOf]; omega
          · obtain ⟨h1, h2⟩ := filter_step_no hlt (by simpa using hp)
            have HK2 : Hid (k = ((y.take (j + 1)).filter P).length) := Lib.hid (by rw [h1, HK.out])
            by_cases h4 : k < (y.filter P).length
            · have h5 := h2 k h4
              obtain ⟨b', off', rfl, _, hc'⟩ := hR2.at_ (k := k) (by simpa using h4)
              have d2 : w3.cell? ⟨b', off' + k, none⟩ = some (.int .i64 (y.filter P)[k]) := hc' k _ (by rw [List.getElem?_map, List.getElem?_eq_getElem h4]; rfl)
              clear hc' h1 h2 hp
              generalize y[j] = z at d1 h5
              generalize (y.filter P)[k] = z' at d2 h5
              have hb : (z' == z) = false := by simpa using h5
              clear h5
              go_wp2_with fail
              go_quiet (fail)
              go_wp2_with fail
              go_roundw
              case rel => exact ⟨j + 1, by omega, by go_num, ⟨k, rfl, HK2, by omega⟩, _, rfl⟩
              case measure => simp [intOf]; omega
            · have hk3 : (y.filter P).length ≤ k := by omega
              clear h1 h2 hp
              generalize y[j] = z at d1
              go_wp2_with fail
              go_quiet (fail)
              go_wp2_with fail
              go_roundw
              case rel => exact ⟨j + 1, by omega, by go_num, ⟨k, rfl, HK2, by omega⟩, _, rfl⟩
              case measure => simp [intOf]; omega
        · obtain rfl : j = y.length := by omega
          have hk : k = (y.filter P).length := by rw [HK.out, List.take_length]
          clear HK
          subst hk
          have hb : (((y.filter P).length : Int) == ((y.filter P).length : Int)) = true := by simp
          go_wp2_with fail
          refine (hGZ (w3.drewN n) (hr3.drewN n) hl).mono ?_
          rintro e w5 ⟨v, rfl, hown5, hb5⟩
          obtain ⟨A5, cc5, rfl, -⟩ := own_slice hown5
          go_wp2_with fail
          go_ret
          exact ⟨rfl, (below_drewN hb03).trans (hb5.mono (by simp; omega))⟩
    · have g2 := f2 (by omega)
      have d2 : decide (a < b) = false := by simp; omega
      go_wp2_with fail
      refine (T2.out (by omega) (by omega)).mono ?_
      rintro e w2 ⟨rfl, rfl⟩
      go_wp2_with fail
      clear T2 T3 f1 f2 f3 f4 f5 f6 f7 f8 f9 k1 k2
      have G1 := gone_any l A c lo1 w1 hr1 hl
      rw [gone_filter l hle] at G1
      have hlx : ((gone l hi1).filter (oldAt l lo1)).length ≤ 7000000000000 := Nat.le_trans (List.length_filter_le _ _) (Nat.le_trans (gone_len _ _) hl)
      generalize oldAt l lo1 = P at G1 hlx
      refine G1.mono ?_
      rintro e w2 ⟨v, rfl, hown, hb2⟩
      have hs2 := hb2.size
      obtain ⟨A2, cc2, rfl, -⟩ := own_slice hown
      have c2' := (hb2.cell (show w.heap.size + 1 < w1.heap.size by omega)).trans c2
      have c3' := (hb2.cell (show w.heap.size + 1 < w1.heap.size by omega)).trans c3
      go_wp2_with fail
      refine (gone_any l A c hi1 w2 ((hr1.below hb2).more hs2) hl).mono ?_
      rintro e w3 ⟨v, rfl, hown3, hb3⟩
      have hs3 := hb3.size
      obtain ⟨A3, cc3, rfl, -⟩ := own_slice hown3
      have hR2 := ((Reads.of_own hown).below hb3).more hs3
      have hR3 := Reads.of_own hown3
      have hr3 := (((hr1.below hb2).more hs2).below hb3).more hs3
      have hb03 := (hbw.trans (hb2.mono hs1)).trans (hb3.mono (Nat.le_trans hs1 hs2))
      have hly : (gone l hi1).length ≤ 7000000000000 := Nat.le_trans (gone_len _ _) hl
      have hgz : gone l (-9223372036854775808) = [] := goneTo_least l _
      have hGZ := gone_any l A c (-9223372036854775808)
      rw [hgz] at hGZ
      clear hb2 hb3 hown hown3 hr1 c0 c1 c2 c3 c2' c3' hgz G1
      generalize gone l hi1 = y at hlx hly hR2 hR3 ⊢
      go_wp2_with fail
      go_loopw [14, 15] (fun kk j wr => ∃ jn : Nat, jn ≤ y.length ∧ j = .int .i64 jn ∧ (∃ kn : Nat, kk = .int .i64 kn ∧ Hid (kn = ((y.take jn).filter P).length) ∧ kn ≤ (y.filter P).length) ∧ ∃ n, wr = w3.drewN n) (fun _ j _ => y.length - (intOf j).toNat)
      case atStart => exact ⟨0, Nat.zero_le _, rfl, ⟨0, rfl, Lib.hid rfl, Nat.zero_le _⟩, 0, rfl⟩
      case round =>
        obtain ⟨j, hj, rfl, ⟨k, rfl, HK, hkx⟩, n, rfl⟩ := hrel
        rcases Nat.lt_or_ge j y.length with hlt | hge
        · obtain ⟨b, off, rfl, _, hc⟩ := hR3.at_ (k := j) (by simpa using hlt)
          have d1 : w3.cell? ⟨b, off + j, none⟩ = some (.int .i64 y[j]) := hc j _ (by simp [hlt])
          clear hc
          by_cases hp : P y[j] = true
          · obtain ⟨h1, h2, h3⟩ := filter_step_yes hlt hp
            have h4 : k < (y.filter P).length := by rw [HK.out]; exact h2
            have h5 : (y.filter P)[k] = y[j] := by simp only [HK.out]; exact h3
            obtain ⟨b', off', rfl, _, hc'⟩ := hR2.at_ (k := k) (by simpa using h4)
            have d2 : w3.cell? ⟨b', off' + k, none⟩ = some (.int .i64 y[j]) := hc' k _ (by rw [List.getElem?_map, List.getElem?_eq_getElem h4, h5]; rfl)
            clear hc'
            have HK2 : Hid (k + 1 = ((y.take (j + 1)).filter P).length) := Lib.hid (by rw [h1, HK.out])
            clear h1 h2 h3 h5 hp
            generalize y[j] = z at d1 d2
            have hb : (z == z) = true := by simp
            go_wp2_with fail
            go_quiet (fail)
            go_wp2_with fail
            go_roundw
            case rel => exact ⟨j + 1, by omega, by go_num, ⟨k + 1, by go_num, HK2, by omega⟩, _, rfl⟩
            case measure => simp [intOf]; omega
          · obtain ⟨h1, h2⟩ := filter_step_no hlt (by simpa using hp)
            have HK2 : Hid (k = ((y.take (j + 1)).filter P).length) := Lib.hid (by rw [h1, HK.out])
            by_cases h4 : k < (y.filter P).length
            · have h5 := h2 k h4
              obtain ⟨b', off', rfl, _, hc'⟩ := hR2.at_ (k := k) (by simpa using h4)
              have d2 : w3.cell? ⟨b', off' + k, none⟩ = some (.int .i64 (y.filter P)[k]) := hc' k _ (by rw [List.getElem?_map, List.getElem?_eq_getElem h4]; rfl)
              clear hc' h1 h2 hp
              generalize y[j] = z at d1 h5
              generalize (y.filter P)[k] = z' at d2 h5
              have hb : (z' == z) = false := by simpa using h5
              clear h5
              go_wp2_with fail
              go_quiet (fail)
              go_wp2_with fail
              go_roundw
              case rel => exact ⟨j + 1, by omega, by go_num, ⟨k, rfl, HK2, by omega⟩, _, rfl⟩
              case measure => simp [intOf]; omega
            · have hk3 : (y.filter P).length ≤ k := by omega
              clear h1 h2 hp
              generalize y[j] = z at d1
              go_wp2_with fail
              go_quiet (fail)
              go_wp2_with fail
              go_roundw
              case rel => exact ⟨j + 1, by omega, by go_num, ⟨k, rfl, HK2, by omega⟩, _, rfl⟩
              case measure => simp [intOf]; omega
        · obtain rfl : j = y.length := by omega
          have hk : k = (y.filter P).length := by rw [HK.out, List.take_length]
          clear HK
          subst hk
          have hb : (((y.filter P).length : Int) == ((y.filter P).length : Int)) = true := by simp
          go_wp2_with fail
          refine (hGZ (w3.drewN n) (hr3.drewN n) hl).mono ?_
          rintro e w5 ⟨v, rfl, hown5, hb5⟩
          obtain ⟨A5, cc5, rfl, -⟩ := own_slice hown5
          go_wp2_with fail
          go_ret
          exact ⟨rfl, (below_drewN hb03).trans (hb5.mono (by simp; omega))⟩
  case inr.inr.inl =>
    have f6' := f6 (by omega)
    have f7' := f7 (by omega)
    subst f6' f7'
    rcases k2 with k2 | rfl | k2
    · have g1 := f1 (by omega)
      have d1 : decide (a > b) = false := by simp; omega
      go_wp2_with fail
      refine (T2.out (by omega) (by omega)).mono ?_
      rintro e w2 ⟨rfl, rfl⟩
      go_wp2_with fail
      refine (T3.out (by omega) (by omega)).mono ?_
      rintro e w2 ⟨rfl, rfl⟩
      go_wp2_with fail
      clear T2 T3 f1 f2 f3 f4 f5 f6 f7 f8 f9 k1 k2
      have G1 := gone_any l A c lo1 w1 hr1 hl
      rw [gone_filter l hle] at G1
      have hlx : ((gone l hi1).filter (oldAt l lo1)).length ≤ 7000000000000 := Nat.le_trans (List.length_filter_le _ _) (Nat.le_trans (gone_len _ _) hl)
      generalize oldAt l lo1 = P at G1 hlx
      refine G1.mono ?_
      rintro e w2 ⟨v, rfl, hown, hb2⟩
      have hs2 := hb2.size
      obtain ⟨A2, cc2, rfl, -⟩ := own_slice hown
      have c2' := (hb2.cell (show w.heap.size + 1 < w1.heap.size by omega)).trans c2
      have c3' := (hb2.cell (show w.heap.size + 1 < w1.heap.size by omega)).trans c3
      go_wp2_with fail
      refine (gone_any l A c hi1 w2 ((hr1.below hb2).more hs2) hl).mono ?_
      rintro e w3 ⟨v, rfl, hown3, hb3⟩
      have hs3 := hb3.size
      obtain ⟨A3, cc3, rfl, -⟩ := own_slice hown3
      have hR2 := ((Reads.of_own hown).below hb3).more hs3
      have hR3 := Reads.of_own hown3
      have hr3 := (((hr1.below hb2).more hs2).below hb3).more hs3
      have hb03 := (hbw.trans (hb2.mono hs1)).trans (hb3.mono (Nat.le_trans hs1 hs2))
      have hly : (gone l hi1).length ≤ 7000000000000 := Nat.le_trans (gone_len _ _) hl
      have hgz : gone l (-9223372036854775808) = [] := goneTo_least l _
      have hGZ := gone_any l A c (-9223372036854775808)
      rw [hgz] at hGZ
      clear hb2 hb3 hown hown3 hr1 c0 c1 c2 c3 c2' c3' hgz G1
      generalize gone l hi1 = y at hlx hly hR2 hR3 ⊢
      go_wp2_with fail
      go_loopw [14, 15] (fun kk j wr => ∃ jn : Nat, jn ≤ y.length ∧ j = .int .i64 jn ∧ (∃ kn : Nat, kk = .int .i64 kn ∧ Hid (kn = ((y.take jn).filter P).length) ∧ kn ≤ (y.filter P).length) ∧ ∃ n, wr = w3.drewN n) (fun _ j _ => y.length - (intOf j).toNat)
      case atStart => exact ⟨0, Nat.zero_le _, rfl, ⟨0, rfl, Lib.hid rfl, Nat.zero_le _⟩, 0, rfl⟩
      case round =>
        obtain ⟨j, hj, rfl, ⟨k, rfl, HK, hkx⟩, n, rfl⟩ := hrel
        rcases Nat.lt_or_ge j y.length with hlt | hge
        · obtain ⟨b, off, rfl, _, hc⟩ := hR3.at_ (k := j) (by simpa using hlt)
          have d1 : w3.cell? ⟨b, off + j, none⟩ = some (.int .i64 y[j]) := hc j _ (by simp [hlt])
          clear hc
          by_cases hp : P y[j] = true
          · obtain ⟨h1, h2, h3⟩ := filter_step_yes hlt hp
            have h4 : k < (y.filter P).length := by rw [HK.out]; exact h2
            have h5 : (y.filter P)[k] = y[j] := by simp only [HK.out]; exact h3
            obtain ⟨b', off', rfl, _, hc'⟩ := hR2.at_ (k := k) (by simpa using h4)
            have d2 : w3.cell? ⟨b', off' + k, none⟩ = some (.int .i64 y[j]) := hc' k _ (by rw [List.getElem?_map, List.getElem?_eq_getElem h4, h5]; rfl)
            clear hc'
            have HK2 : Hid (k + 1 = ((y.take (j + 1)).filter P).length) := Lib.hid (by rw [h1, HK.out])
            clear h1 h2 h3 h5 hp
            generalize y[j] = z at d1 d2
            have hb : (z == z) = true := by simp
            go_wp2_with fail
            go_quiet (fail)
            go_wp2_with fail
            go_roundw
            case rel => exact ⟨j + 1, by omega, by go_num, ⟨k + 1, by go_num, HK2, by omega⟩, _, rfl⟩
            case measure => simp [intOf]; omega
          · obtain ⟨h1, h2⟩ := filter_step_no hlt (by simpa using hp)
            have HK2 : Hid (k = ((y.take (j + 1)).filter P).length) := Lib.hid (by rw [h1, HK.out])
            by_cases h4 : k < (y.filter P).length
            · have h5 := h2 k h4
              obtain ⟨b', off', rfl, _, hc'⟩ := hR2.at_ (k := k) (by simpa using h4)
              have d2 : w3.cell? ⟨b', off' + k, none⟩ = some (.int .i64 (y.filter P)[k]) := hc' k _ (by rw [List.getElem?_map, List.getElem?_eq_getElem h4]; rfl)
              clear hc' h1 h2 hp
              generalize y[j] = z at d1 h5
              generalize (y.filter P)[k] = z' at d2 h5
              have hb : (z' == z) = false := by simpa using h5
              clear h5
              go_wp2_with fail
              go_quiet (fail)
              go_wp2_with fail
              go_roundw
              case rel => exact ⟨j + 1, by omega, by go_num, ⟨k, rfl, HK2, by omega⟩, _, rfl⟩
              case measure => simp [intOf]; omega
            · have hk3 : (y.filter P).length ≤ k := by omega
              clear h1 h2 hp
              generalize y[j] = z at d1
              go_wp2_with fail
              go_quiet (fail)
              go_wp2_with fail
              go_roundw
              case rel => exact ⟨j + 1, by omega, by go_num, ⟨k, rfl, HK2, by omega⟩, _, rfl⟩
              case measure => simp [intOf]; omega
        · obtain rfl : j = y.length := by omega
          have hk : k = (y.filter P).length := by rw [HK.out, List.take_length]
          clear HK
          subst hk
          have hb : (((y.filter P).length : Int) == ((y.filter P).length : Int)) = true := by simp
          go_wp2_with fail
          refine (hGZ (w3.drewN n) (hr3.drewN n) hl).mono ?_
          rintro e w5 ⟨v, rfl, hown5, hb5⟩
          obtain ⟨A5, cc5, rfl, -⟩ := own_slice hown5
          go_wp2_with fail
          go_ret
          exact ⟨rfl, (below_drewN hb03).trans (hb5.mono (by simp; omega))⟩
    · have g1 := f1 (by omega)
      have g2 := f2 (by omega)
      have d1 : decide (a > b) = false := by simp; omega
      have d2 : decide (a < b) = false := by simp; omega
      go_wp2_with fail
      refine (T2.out (by omega) (by omega)).mono ?_
      rintro e w2 ⟨rfl, rfl⟩
      go_wp2_with fail
      refine (T3.out (by omega) (by omega)).mono ?_
      rintro e w2 ⟨rfl, rfl⟩
      go_wp2_with fail
      clear T2 T3 f1 f2 f3 f4 f5 f6 f7 f8 f9 k1
      have G1 := gone_any l A c lo1 w1 hr1 hl
      rw [gone_filter l hle] at G1
      have hlx : ((gone l hi1).filter (oldAt l lo1)).length ≤ 7000000000000 := Nat.le_trans (List.length_filter_le _ _) (Nat.le_trans (gone_len _ _) hl)
      generalize oldAt l lo1 = P at G1 hlx
      refine G1.mono ?_
      rintro e w2 ⟨v, rfl, hown, hb2⟩
      have hs2 := hb2.size
      obtain ⟨A2, cc2, rfl, -⟩ := own_slice hown
      have c2' := (hb2.cell (show w.heap.size + 1 < w1.heap.size by omega)).trans c2
      have c3' := (hb2.cell (show w.heap.size + 1 < w1.heap.size by omega)).trans c3
      go_wp2_with fail
      refine (gone_any l A c hi1 w2 ((hr1.below hb2).more hs2) hl).mono ?_
      rintro e w3 ⟨v, rfl, hown3, hb3⟩
      have hs3 := hb3.size
      obtain ⟨A3, cc3, rfl, -⟩ := own_slice hown3
      have hR2 := ((Reads.of_own hown).below hb3).more hs3
      have hR3 := Reads.of_own hown3
      have hr3 := (((hr1.below hb2).more hs2).below hb3).more hs3
      have hb03 := (hbw.trans (hb2.mono hs1)).trans (hb3.mono (Nat.le_trans hs1 hs2))
      have hly : (gone l hi1).length ≤ 7000000000000 := Nat.le_trans (gone_len _ _) hl
      have hgz : gone l (-9223372036854775808) = [] := goneTo_least l _
      have hGZ := gone_any l A c (-9223372036854775808)
      rw [hgz] at hGZ
      clear hb2 hb3 hown hown3 hr1 c0 c1 c2 c3 c2' c3' hgz G1
      generalize gone l hi1 = y at hlx hly hR2 hR3 ⊢
      go_wp2_with fail
      go_loopw [14, 15] (fun kk j wr => ∃ jn : Nat, jn ≤ y.length ∧ j = .int .i64 jn ∧ (∃ kn : Nat, kk = .int .i64 kn ∧ Hid (kn = ((y.take jn).filter P).length) ∧ kn ≤ (y.filter P).length) ∧ ∃ n, wr = w3.drewN n) (fun _ j _ => y.length - (intOf j).toNat)
      case atStart => exact ⟨0, Nat.zero_le _, rfl, ⟨0, rfl, Lib.hid rfl, Nat.zero_le _⟩, 0, rfl⟩
      case round =>
        obtain ⟨j, hj, rfl, ⟨k, rfl, HK, hkx⟩, n, rfl⟩ := hrel
        rcases Nat.lt_or_ge j y.length with hlt | hge
        · obtain ⟨b, off, rfl, _, hc⟩ := hR3.at_ (k := j) (by simpa using hlt)
          have d1 : w3.cell? ⟨b, off + j, none⟩ = some (.int .i64 y[j]) := hc j _ (by simp [hlt])
          clear hc
          by_cases hp : P y[j] = true
          · obtain ⟨h1, h2, h3⟩ := filter_step_yes hlt hp
            have h4 : k < (y.filter P).length := by rw [HK.out]; exact h2
            have h5 : (y.filter P)[k] = y[j] := by simp only [HK.out]; exact h3
            obtain ⟨b', off', rfl, _, hc'⟩ := hR2.at_ (k := k) (by simpa using h4)
            have d2 : w3.cell? ⟨b', off' + k, none⟩ = some (.int .i64 y[j]) := hc' k _ (by rw [List.getElem?_map, List.getElem?_eq_getElem h4, h5]; rfl)
            clear hc'
            have HK2 : Hid (k + 1 = ((y.take (j + 1)).filter P).length) := Lib.hid (by rw [h1, HK.out])
            clear h1 h2 h3 h5 hp
            generalize y[j] = z at d1 d2
            have hb : (z == z) = true := by simp
            go_wp2_with fail
            go_quiet (fail)
            go_wp2_with fail
            go_roundw
            case rel => exact ⟨j + 1, by omega, by go_num, ⟨k + 1, by go_num, HK2, by omega⟩, _, rfl⟩
            case measure => simp [intOf]; omega
          · obtain ⟨h1, h2⟩ := filter_step_no hlt (by simpa using hp)
            have HK2 : Hid (k = ((y.take (j + 1)).filter P).length) := Lib.hid (by rw [h1, HK.out])
            by_cases h4 : k < (y.filter P).length
            · have h5 := h2 k h4
              obtain ⟨b', off', rfl, _, hc'⟩ := hR2.at_ (k := k) (by simpa using h4)
              have d2 : w3.cell? ⟨b', off' + k, none⟩ = some (.int .i64 (y.filter P)[k]) := hc' k _ (by rw [List.getElem?_map, List.getElem?_eq_getElem h4]; rfl)
              clear hc' h1 h2 hp
              generalize y[j] = z at d1 h5
              generalize (y.filter P)[k] = z' at d2 h5
              have hb : (z' == z) = false := by simpa using h5
              clear h5
              go_wp2_with fail
              go_quiet (fail)
              go_wp2_with fail
              go_roundw
              case rel => exact ⟨j + 1, by omega, by go_num, ⟨k, rfl, HK2, by omega⟩, _, rfl⟩
              case measure => simp [intOf]; omega
            · have hk3 : (y.filter P).length ≤ k := by omega
              clear h1 h2 hp
              generalize y[j] = z at d1
              go_wp2_with fail
              go_quiet (fail)
              go_wp2_with fail
              go_roundw
              case rel => exact ⟨j + 1, by omega, by go_num, ⟨k, rfl, HK2, by omega⟩, _, rfl⟩
              case measure => simp [intOf]; omega
        · obtain rfl : j = y.length := by omega
          have hk : k = (y.filter P).length := by rw [HK.out, List.take_length]
          clear HK
          subst hk
          have hb : (((y.filter P).length : Int) == ((y.filter P).length : Int)) = true := by simp
          go_wp2_with fail
          refine (hGZ (w3.drewN n) (hr3.drewN n) hl).mono ?_
          rintro e w5 ⟨v, rfl, hown5, hb5⟩
          obtain ⟨A5, cc5, rfl, -⟩ := own_slice hown5
          go_wp2_with fail
          go_ret
          exact ⟨rfl, (below_drewN hb03).trans (hb5.mono (by simp; omega))⟩
    · have g2 := f2 (by omega)
      have d2 : decide (a < b) = false := by simp; omega
      go_wp2_with fail
      refine (T2.out (by omega) (by omega)).mono ?_
      rintro e w2 ⟨rfl, rfl⟩
      go_wp2_with fail
      refine (T3.out (by omega) (by omega)).mono ?_
      rintro e w2 ⟨rfl, rfl⟩
      go_wp2_with fail
      clear T2 T3 f1 f2 f3 f4 f5 f6 f7 f8 f9 k1 k2
      have G1 := gone_any l A c lo1 w1 hr1 hl
      rw [gone_filter l hle] at G1
      have hlx : ((gone l hi1).filter (oldAt l lo1)).length ≤ 7000000000000 := Nat.le_trans (List.length_filter_le _ _) (Nat.le_trans (gone_len _ _) hl)
      generalize oldAt l lo1 = P at G1 hlx
      refine G1.mono ?_
      rintro e w2 ⟨v, rfl, hown, hb2⟩
      have hs2 := hb2.size
      obtain ⟨A2, cc2, rfl, -⟩ := own_slice hown
      have c2' := (hb2.cell (show w.heap.size + 1 < w1.heap.size by omega)).trans c2
      have c3' := (hb2.cell (show w.heap.size + 1 < w1.heap.size by omega)).trans c3
      go_wp2_with fail
      refine (gone_any l A c hi1 w2 ((hr1.below hb2).more hs2) hl).mono ?_
      rintro e w3 ⟨v, rfl, hown3, hb3⟩
      have hs3 := hb3.size
      obtain ⟨A3, cc3, rfl, -⟩ := own_slice hown3
      have hR2 := ((Reads.of_own hown).below hb3).more hs3
      have hR3 := Reads.of_own hown3
      have hr3 := (((hr1.below hb2).more hs2).below hb3).more hs3
      have hb03 := (hbw.trans (hb2.mono hs1)).trans (hb3.mono (Nat.le_trans hs1 hs2))
      have hly : (gone l hi1).length ≤ 7000000000000 := Nat.le_trans (gone_len _ _) hl
      have hgz : gone l (-9223372036854775808) = [] := goneTo_least l _
      have hGZ := gone_any l A c (-9223372036854775808)
      rw [hgz] at hGZ
      clear hb2 hb3 hown hown3 hr1 c0 c1 c2 c3 c2' c3' hgz G1
      generalize gone l hi1 = y at hlx hly hR2 hR3 ⊢
      go_wp2_with fail
      go_loopw [14, 15] (fun kk j wr => ∃ jn : Nat, jn ≤ y.length ∧ j = .int .i64 jn ∧ (∃ kn : Nat, kk = .int .i64 kn ∧ Hid (kn = ((y.take jn).filter P).length) ∧ kn ≤ (y.filter P).length) ∧ ∃ n, wr = w3.drewN n) (fun _ j _ => y.length - (intOf j).toNat)
      case atStart => exact ⟨0, Nat.zero_le _, rfl, ⟨0, rfl, Lib.hid rfl, Nat.zero_le _⟩, 0, rfl⟩
      case round =>
        obtain ⟨j, hj, rfl, ⟨k, rfl, HK, hkx⟩, n, rfl⟩ := hrel
        rcases Nat.lt_or_ge j y.length with hlt | hge
        · obtain ⟨b, off, rfl, _, hc⟩ := hR3.at_ (k := j) (by simpa using hlt)
          have d1 : w3.cell? ⟨b, off + j, none⟩ = some (.int .i64 y[j]) := hc j _ (by simp [hlt])
          clear hc
          by_cases hp : P y[j] = true
          · obtain ⟨h1, h2, h3⟩ := filter_step_yes hlt hp
            have h4 : k < (y.filter P).length := by rw [HK.out]; exact h2
            have h5 : (y.filter P)[k] = y[j] := by simp only [HK.out]; exact h3
            obtain ⟨b', off', rfl, _, hc'⟩ := hR2.at_ (k := k) (by simpa using h4)
            have d2 : w3.cell? ⟨b', off' + k, none⟩ = some (.int .i64 y[j]) := hc' k _ (by rw [List.getElem?_map, List.getElem?_eq_getElem h4, h5]; rfl)
            clear hc'
            have HK2 : Hid (k + 1 = ((y.take (j + 1)).filter P).length) := Lib.hid (by rw [h1, HK.out])
            clear h1 h2 h3 h5 hp
            generalize y[j] = z at d1 d2
            have hb : (z == z) = true := by simp
            go_wp2_with fail
            go_quiet (fail)
            go_wp2_with fail
            go_roundw
            case rel => exact ⟨j + 1, by omega, by go_num, ⟨k + 1, by go_num, HK2, by omega⟩, _, rfl⟩
            case measure => simp [intOf]; omega
          · obtain ⟨h1, h2⟩ := filter_step_no hlt (by simpa using hp)
            have HK2 : Hid (k = ((y.take (j + 1)).filter P).length) := Lib.hid (by rw [h1, HK.out])
            by_cases h4 : k < (y.filter P).length
            · have h5 := h2 k h4
              obtain ⟨b', off', rfl, _, hc'⟩ := hR2.at_ (k := k) (by simpa using h4)
              have d2 : w3.cell? ⟨b', off' + k, none⟩ = some (.int .i64 (y.filter P)[k]) := hc' k _ (by rw [List.getElem?_map, List.getElem?_eq_getElem h4]; rfl)
              clear hc' h1 h2 hp
              generalize y[j] = z at d1 h5
              generalize (y.filter P)[k] = z' at d2 h5
              have hb : (z' == z) = false := by simpa using h5
              clear h5
              go_wp2_with fail
              go_quiet (fail)
              go_wp2_with fail
              go_roundw
              case rel => exact ⟨j + 1, by omega, by go_num, ⟨k, rfl, HK2, by omega⟩, _, rfl⟩
              case measure => simp [intOf]; omega
            · have hk3 : (y.filter P).length ≤ k := by omega
              clear h1 h2 hp
              generalize y[j] = z at d1
              go_wp2_with fail
              go_quiet (fail)
              go_wp2_with fail
              go_roundw
              case rel => exact ⟨j + 1, by omega, by go_num, ⟨k, rfl, HK2, by omega⟩, _, rfl⟩
              case measure => simp [intOf]; omega
        · obtain rfl : j = y.length := by omega
          have hk : k = (y.filter P).length := by rw [HK.out, List.take_length]
          clear HK
          subst hk
          have hb : (((y.filter P).length : Int) == ((y.filter P).length : Int)) = true := by simp
          go_wp2_with fail
          refine (hGZ (w3.drewN n) (hr3.drewN n) hl).mono ?_
          rintro e w5 ⟨v, rfl, hown5, hb5⟩
          obtain ⟨A5, cc5, rfl, -⟩ := own_slice hown5
          go_wp2_with fail
          go_ret
          exact ⟨rfl, (below_drewN hb03).trans (hb5.mono (by simp; omega))⟩
  case inr.inr.inr =>
    have f7' := f7 (by omega)
    subst f7'
    rcases k2 with k2 | rfl | k2
    · have g1 := f1 (by omega)
      have d1 : decide (a > b) = false := by simp; omega
      go_wp2_with fail
      refine (T3.out (by omega) (by omega)).mono ?_
      rintro e w2 ⟨rfl, rfl⟩
      go_wp2_with fail
      clear T2 T3 f1 f2 f3 f4 f5 f6 f7 f8 f9 k1 k2
      have G1 := gone_any l A c lo1 w1 hr1 hl
      rw [gone_filter l hle] at G1
      have hlx : ((gone l hi1).filter (oldAt l lo1)).length ≤ 7000000000000 := Nat.le_trans (List.length_filter_le _ _) (Nat.le_trans (gone_len _ _) hl)
      generalize oldAt l lo1 = P at G1 hlx
      refine G1.mono ?_
      rintro e w2 ⟨v, rfl, hown, hb2⟩
      have hs2 := hb2.size
      obtain ⟨A2, cc2, rfl, -⟩ := own_slice hown
      have c2' := (hb2.cell (show w.heap.size + 1 < w1.heap.size by omega)).trans c2
      have c3' := (hb2.cell (show w.heap.size + 1 < w1.heap.size by omega)).trans c3
      go_wp2_with fail
      refine (gone_any l A c hi1 w2 ((hr1.below hb2).more hs2) hl).mono ?_
      rintro e w3 ⟨v, rfl, hown3, hb3⟩
      have hs3 := hb3.size
      obtain ⟨A3, cc3, rfl, -⟩ := own_slice hown3
      have hR2 := ((Reads.of_own hown).below hb3).more hs3
      have hR3 := Reads.of_own hown3
      have hr3 := (((hr1.below hb2).more hs2).below hb3).more hs3
      have hb03 := (hbw.trans (hb2.mono hs1)).trans (hb3.mono (Nat.le_trans hs1 hs2))
      have hly : (gone l hi1).length ≤ 7000000000000 := Nat.le_trans (gone_len _ _) hl
      have hgz : gone l (-9223372036854775808) = [] := goneTo_least l _
      have hGZ := gone_any l A c (-9223372036854775808)
      rw [hgz] at hGZ
      clear hb2 hb3 hown hown3 hr1 c0 c1 c2 c3 c2' c3' hgz G1
      generalize gone l hi1 = y at hlx hly hR2 hR3 ⊢
      go_wp2_with fail
      go_loopw [14, 15] (fun kk j wr => ∃ jn : Nat, jn ≤ y.length ∧ j = .int .i64 jn ∧ (∃ kn : Nat, kk = .int .i64 kn ∧ Hid (kn = ((y.take jn).filter P).length) ∧ kn ≤ (y.filter P).length) ∧ ∃ n, wr = w3.drewN n) (fun _ j _ => y.length - (intOf j).toNat)
      case atStart => exact ⟨0, Nat.zero_le _, rfl, ⟨0, rfl, Lib.hid rfl, Nat.zero_le _⟩, 0, rfl⟩
      case round =>
        obtain ⟨j, hj, rfl, ⟨k, rfl, HK, hkx⟩, n, rfl⟩ := hrel
        rcases Nat.lt_or_ge j y.length with hlt | hge
        · obtain ⟨b, off, rfl, _, hc⟩ := hR3.at_ (k := j) (by simpa using hlt)
          have d1 : w3.cell? ⟨b, off + j, none⟩ = some (.int .i64 y[j]) := hc j _ (by simp [hlt])
          clear hc
          by_cases hp : P y[j] = true
          · obtain ⟨h1, h2, h3⟩ := filter_step_yes hlt hp
            have h4 : k < (y.filter P).length := by rw [HK.out]; exact h2
            have h5 : (y.filter P)[k] = y[j] := by simp only [HK.out]; exact h3
            obtain ⟨b', off', rfl, _, hc'⟩ := hR2.at_ (k := k) (by simpa using h4)
            have d2 : w3.cell? ⟨b', off' + k, none⟩ = some (.int .i64 y[j]) := hc' k _ (by rw [List.getElem?_map, List.getElem?_eq_getElem h4, h5]; rfl)
            clear hc'
            have HK2 : Hid (k + 1 = ((y.take (j + 1)).filter P).length) := Lib.hid (by rw [h1, HK.out])
            clear h1 h2 h3 h5 hp
            generalize y[j] = z at d1 d2
            have hb : (z == z) = true := by simp
            go_wp2_with fail
            go_quiet (fail)
            go_wp2_with fail
            go_roundw
            case rel => exact ⟨j + 1, by omega, by go_num, ⟨k + 1, by go_num, HK2, by omega⟩, _, rfl⟩
            case measure => simp [intOf]; omega
          · obtain ⟨h1, h2⟩ := filter_step_no hlt (by simpa using hp)
            have HK2 : Hid (k = ((y.take (j + 1)).filter P).length) := Lib.hid (by rw [h1, HK.out])
            by_cases h4 : k < (y.filter P).length
            · have h5 := h2 k h4
              obtain ⟨b', off', rfl, _, hc'⟩ := hR2.at_ (k := k) (by simpa using h4)
              have d2 : w3.cell? ⟨b', off' + k, none⟩ = some (.int .i64 (y.filter P)[k]) := hc' k _ (by rw [List.getElem?_map, List.getElem?_eq_getElem h4]; rfl)
              clear hc' h1 h2 hp
              generalize y[j] = z at d1 h5
              generalize (y.filter P)[k] = z' at d2 h5
              have hb : (z' == z) = false := by simpa using h5
              clear h5
              go_wp2_with fail
              go_quiet (fail)
              go_wp2_with fail
              go_roundw
              case rel => exact ⟨j + 1, by omega, by go_num, ⟨k, rfl, HK2, by omega⟩, _, rfl⟩
              case measure => simp [intOf]; omega
            · have hk3 : (y.filter P).length ≤ k := by omega
              clear h1 h2 hp
              generalize y[j] = z at d1
              go_wp2_with fail
              go_quiet (fail)
              go_wp2_with fail
              go_roundw
              case rel => exact ⟨j + 1, by omega, by go_num, ⟨k, rfl, HK2, by omega⟩, _, rfl⟩
              case measure => simp [intOf]; omega
        · obtain rfl : j = y.length := by omega
          have hk : k = (y.filter P).length := by rw [HK.out, List.take_length]
          clear HK
          subst hk
          have hb : (((y.filter P).length : Int) == ((y.filter P).length : Int)) = true := by simp
          go_wp2_with fail
          refine (hGZ (w3.drewN n) (hr3.drewN n) hl).mono ?_
          rintro e w5 ⟨v, rfl, hown5, hb5⟩
          obtain ⟨A5, cc5, rfl, -⟩ := own_slice hown5
          go_wp2_with fail
          go_ret
          exact ⟨rfl, (below_drewN hb03).trans (hb5.mono (by simp; omega))⟩
    · have g1 := f1 (by omega)
      have g2 := f2 (by omega)
      have d1 : decide (a > b) = false := by simp; omega
      have d2 : decide (a < b) = false := by simp; omega
      go_wp2_with fail
      refine (T3.out (by omega) (by omega)).mono ?_
      rintro e w2 ⟨rfl, rfl⟩
      go_wp2_with fail
      clear T2 T3 f1 f2 f3 f4 f5 f6 f7 f8 f9 k1
      have G1 := gone_any l A c lo1 w1 hr1 hl
      rw [gone_filter l hle] at G1
      have hlx : ((gone l hi1).filter (oldAt l lo1)).length ≤ 7000000000000 := Nat.le_trans (List.length_filter_le _ _) (Nat.le_trans (gone_len _ _) hl)
      generalize oldAt l lo1 = P at G1 hlx
      refine G1.mono ?_
      rintro e w2 ⟨v, rfl, hown, hb2⟩
      have hs2 := hb2.size
      obtain ⟨A2, cc2, rfl, -⟩ := own_slice hown
      have c2' := (hb2.cell (show w.heap.size + 1 < w1.heap.size by omega)).trans c2
      have c3' := (hb2.cell (show w.heap.size + 1 < w1.heap.size by omega)).trans c3
      go_wp2_with fail
      refine (gone_any l A c hi1 w2 ((hr1.below hb2).more hs2) hl).mono ?_
      rintro e w3 ⟨v, rfl, hown3, hb3⟩
      have hs3 := hb3.size
      obtain ⟨A3, cc3, rfl, -⟩ := own_slice hown3
      have hR2 := ((Reads.of_own hown).below hb3).more hs3
      have hR3 := Reads.of_own hown3
      have hr3 := (((hr1.below hb2).more hs2).below hb3).more hs3
      have hb03 := (hbw.trans (hb2.mono hs1)).trans (hb3.mono (Nat.le_trans hs1 hs2))
      have hly : (gone l hi1).length ≤ 7000000000000 := Nat.le_trans (gone_len _ _) hl
      have hgz : gone l (-9223372036854775808) = [] := goneTo_least l _
      have hGZ := gone_any l A c (-9223372036854775808)
      rw [hgz] at hGZ
      clear hb2 hb3 hown hown3 hr1 c0 c1 c2 c3 c2' c3' hgz G1
      generalize gone l hi1 = y at hlx hly hR2 hR3 ⊢
      go_wp2_with fail
      go_loopw [14, 15] (fun kk j wr => ∃ jn : Nat, jn ≤ y.length ∧ j = .int .i64 jn ∧ (∃ kn : Nat, kk = .int .i64 kn ∧ Hid (kn = ((y.take jn).filter P).length) ∧ kn ≤ (y.filter P).length) ∧ ∃ n, wr = w3.drewN n) (fun _ j _ => y.length - (intOf j).toNat)
      case atStart => exact ⟨0, Nat.zero_le _, rfl, ⟨0, rfl, Lib.hid rfl, Nat.zero_le _⟩, 0, rfl⟩
      case round =>
        obtain ⟨j, hj, rfl, ⟨k, rfl, HK, hkx⟩, n, rfl⟩ := hrel
        rcases Nat.lt_or_ge j y.length with hlt | hge
        · obtain ⟨b, off, rfl, _, hc⟩ := hR3.at_ (k := j) (by simpa using hlt)
          have d1 : w3.cell? ⟨b, off + j, none⟩ = some (.int .i64 y[j]) := hc j _ (by simp [hlt])
          clear hc
          by_cases hp : P y[j] = true
          · obtain ⟨h1, h2, h3⟩ := filter_step_yes hlt hp
            have h4 : k < (y.filter P).length := by rw [HK.out]; exact h2
            have h5 : (y.filter P)[k] = y[j] := by simp only [HK.out]; exact h3
            obtain ⟨b', off', rfl, _, hc'⟩ := hR2.at_ (k := k) (by simpa using h4)
            have d2 : w3.cell? ⟨b', off' + k, none⟩ = some (.int .i64 y[j]) := hc' k _ (by rw [List.getElem?_map, List.getElem?_eq_getElem h4, h5]; rfl)
            clear hc'
            have HK2 : Hid (k + 1 = ((y.take (j + 1)).filter P).length) := Lib.hid (by rw [h1, HK.out])
            clear h1 h2 h3 h5 hp
            generalize y[j] = z at d1 d2
            have hb : (z == z) = true := by simp
            go_wp2_with fail
            go_quiet (fail)
            go_wp2_with fail
            go_roundw
            case rel => exact ⟨j + 1, by omega, by go_num, ⟨k + 1, by go_num, HK2, by omega⟩, _, rfl⟩
            case measure => simp [intOf]; omega
          · obtain ⟨h1, h2⟩ := filter_step_no hlt (by simpa using hp)
            have HK2 : Hid (k = ((y.take (j + 1)).filter P).length) := Lib.hid (by rw [h1, HK.out])
            by_cases h4 : k < (y.filter P).length
            · have h5 := h2 k h4
              obtain ⟨b', off', rfl, _, hc'⟩ := hR2.at_ (k := k) (by simpa using h4)
              have d2 : w3.cell? ⟨b', off' + k, none⟩ = some (.int .i64 (y.filter P)[k]) := hc' k _ (by rw [List.getElem?_map, List.getElem?_eq_getElem h4]; rfl)
              clear hc' h1 h2 hp
              generalize y[j] = z at d1 h5
              generalize (y.filter P)[k] = z' at d2 h5
              have hb : (z' == z) = false := by simpa using h5
              clear h5
              go_wp2_with fail
              go_quiet (fail)
              go_wp2_with fail
              go_roundw
              case rel => exact ⟨j + 1, by omega, by go_num, ⟨k, rfl, HK2, by omega⟩, _, rfl⟩
              case measure => simp [intOf]; omega
            · have hk3 : (y.filter P).length ≤ k := by omega
              clear h1 h2 hp
              generalize y[j] = z at d1
              go_wp2_with fail
              go_quiet (fail)
              go_wp2_with fail
              go_roundw
              case rel => exact ⟨j + 1, by omega, by go_num, ⟨k, rfl, HK2, by omega⟩, _, rfl⟩
              case measure => simp [intOf]; omega
        · obtain rfl : j = y.length := by omega
          have hk : k = (y.filter P).length := by rw [HK.out, List.take_length]
          clear HK
          subst hk
          have hb : (((y.filter P).length : Int) == ((y.filter P).length : Int)) = true := by simp
          go_wp2_with fail
          refine (hGZ (w3.drewN n) (hr3.drewN n) hl).mono ?_
          rintro e w5 ⟨v, rfl, hown5, hb5⟩
          obtain ⟨A5, cc5, rfl, -⟩ := own_slice hown5
          go_wp2_with fail
          go_ret
          exact ⟨rfl, (below_drewN hb03).trans (hb5.mono (by simp; omega))⟩
    · have g2 := f2 (by omega)
      have d2 : decide (a < b) = false := by simp; omega
      go_wp2_with fail
      refine (T3.out (by omega) (by omega)).mono ?_
      rintro e w2 ⟨rfl, rfl⟩
      go_wp2_with fail
      clear T2 T3 f1 f2 f3 f4 f5 f6 f7 f8 f9 k1 k2
      have G1 := gone_any l A c lo1 w1 hr1 hl
      rw [gone_filter l hle] at G1
      have hlx : ((gone l hi1).filter (oldAt l lo1)).length ≤ 7000000000000 := Nat.le_trans (List.length_filter_le _ _) (Nat.le_trans (gone_len _ _) hl)
      generalize oldAt l lo1 = P at G1 hlx
      refine G1.mono ?_
      rintro e w2 ⟨v, rfl, hown, hb2⟩
      have hs2 := hb2.size
      obtain ⟨A2, cc2, rfl, -⟩ := own_slice hown
      have c2' := (hb2.cell (show w.heap.size + 1 < w1.heap.size by omega)).trans c2
      have c3' := (hb2.cell (show w.heap.size + 1 < w1.heap.size by omega)).trans c3
      go_wp2_with fail
      refine (gone_any l A c hi1 w2 ((hr1.below hb2).more hs2) hl).mono ?_
      rintro e w3 ⟨v, rfl, hown3, hb3⟩
      have hs3 := hb3.size
      obtain ⟨A3, cc3, rfl, -⟩ := own_slice hown3
      have hR2 := ((Reads.of_own hown).below hb3).more hs3
      have hR3 := Reads.of_own hown3
      have hr3 := (((hr1.below hb2).more hs2).below hb3).more hs3
      have hb03 := (hbw.trans (hb2.mono hs1)).trans (hb3.mono (Nat.le_trans hs1 hs2))
      have hly : (gone l hi1).length ≤ 7000000000000 := Nat.le_trans (gone_len _ _) hl
      have hgz : gone l (-9223372036854775808) = [] := goneTo_least l _
      have hGZ := gone_any l A c (-9223372036854775808)
      rw [hgz] at hGZ
      clear hb2 hb3 hown hown3 hr1 c0 c1 c2 c3 c2' c3' hgz G1
      generalize gone l hi1 = y at hlx hly hR2 hR3 ⊢
      go_wp2_with fail
      go_loopw [14, 15] (fun kk j wr => ∃ jn : Nat, jn ≤ y.length ∧ j = .int .i64 jn ∧ (∃ kn : Nat, kk = .int .i64 kn ∧ Hid (kn = ((y.take jn).filter P).length) ∧ kn ≤ (y.filter P).length) ∧ ∃ n, wr = w3.drewN n) (fun _ j _ => y.length - (intOf j).toNat)
      case atStart => exact ⟨0, Nat.zero_le _, rfl, ⟨0, rfl, Lib.hid rfl, Nat.zero_le _⟩, 0, rfl⟩
      case round =>
        obtain ⟨j, hj, rfl, ⟨k, rfl, HK, hkx⟩, n, rfl⟩ := hrel
        rcases Nat.lt_or_ge j y.length with hlt | hge
        · obtain ⟨b, off, rfl, _, hc⟩ := hR3.at_ (k := j) (by simpa using hlt)
          have d1 : w3.cell? ⟨b, off + j, none⟩ = some (.int .i64 y[j]) := hc j _ (by simp [hlt])
          clear hc
          by_cases hp : P y[j] = true
          · obtain ⟨h1, h2, h3⟩ := filter_step_yes hlt hp
            have h4 : k < (y.filter P).length := by rw [HK.out]; exact h2
            have h5 : (y.filter P)[k] = y[j] := by simp only [HK.out]; exact h3
            obtain ⟨b', off', rfl, _, hc'⟩ := hR2.at_ (k := k) (by simpa using h4)
            have d2 : w3.cell? ⟨b', off' + k, none⟩ = some (.int .i64 y[j]) := hc' k _ (by rw [List.getElem?_map, List.getElem?_eq_getElem h4, h5]; rfl)
            clear hc'
            have HK2 : Hid (k + 1 = ((y.take (j + 1)).filter P).length) := Lib.hid (by rw [h1, HK.out])
            clear h1 h2 h3 h5 hp
            generalize y[j] = z at d1 d2
            have hb : (z == z) = true := by simp
            go_wp2_with fail
            go_quiet (fail)
            go_wp2_with fail
            go_roundw
            case rel => exact ⟨j + 1, by omega, by go_num, ⟨k + 1, by go_num, HK2, by omega⟩, _, rfl⟩
            case measure => simp [intOf]; omega
          · obtain ⟨h1, h2⟩ := filter_step_no hlt (by simpa using hp)
            have HK2 : Hid (k = ((y.take (j + 1)).filter P).length) := Lib.hid (by rw [h1, HK.out])
            by_cases h4 : k < (y.filter P).length
            · have h5 := h2 k h4
              obtain ⟨b', off', rfl, _, hc'⟩ := hR2.at_ (k := k) (by simpa using h4)
              have d2 : w3.cell? ⟨b', off' + k, none⟩ = some (.int .i64 (y.filter P)[k]) := hc' k _ (by rw [List.getElem?_map, List.getElem?_eq_getElem h4]; rfl)
              clear hc' h1 h2 hp
              generalize y[j] = z at d1 h5
              generalize (y.filter P)[k] = z' at d2 h5
              have hb : (z' == z) = false := by simpa using h5
              clear h5
              go_wp2_with fail
              go_quiet (fail)
              go_wp2_with fail
              go_roundw
              case rel => exact ⟨j + 1, by omega, by go_num, ⟨k, rfl, HK2, by omega⟩, _, rfl⟩
              case measure => simp [intOf]; omega
            · have hk3 : (y.filter P).length ≤ k := by omega
              clear h1 h2 hp
              generalize y[j] = z at d1
              go_wp2_with fail
              go_quiet (fail)
              go_wp2_with fail
              go_roundw
              case rel => exact ⟨j + 1, by omega, by go_num, ⟨k, rfl, HK2, by omega⟩, _, rfl⟩
              case measure => simp [intOf]; omega
        · obtain rfl : j = y.length := by omega
          have hk : k = (y.filter P).length := by rw [HK.out, List.take_length]
          clear HK
          subst hk
          have hb : (((y.filter P).length : Int) == ((y.filter P).length : Int)) = true := by simp
          go_wp2_with fail
          refine (hGZ (w3.drewN n) (hr3.drewN n) hl).mono ?_
          rintro e w5 ⟨v, rfl, hown5, hb5⟩
          obtain ⟨A5, cc5, rfl, -⟩ := own_slice hown5
          go_wp2_with fail
          go_ret
          exact ⟨rfl, (below_drewN hb03).trans (hb5.mono (by simp; omega))⟩
end Go.Proofs.Ytpfladolkkhfdaa
