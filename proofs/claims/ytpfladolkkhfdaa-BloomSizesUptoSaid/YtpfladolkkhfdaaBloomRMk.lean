/- The walk of making a filter: the reference's. -/
import Derived.Test.YtpfladolkkhfdaaBloomOnce
namespace Go.Proofs.Ytpfladolkkhfdaa
set_option linter.unusedVariables false
open Go.RowKit Go.Maps

set_option maxHeartbeats 2000000 in
set_option maxRecDepth 100000 in
theorem refMake_any (ws : List ByteArray) (A : Option Addr) (c : Nat) (w : World) (hr : Reads w w.heap.size A (ws.map vs)) (hl : ws.length ≤ 1000000000) (hs : ∀ s ∈ ws, s.size ≤ 9223372036854775807) :
    Calls Try.prog 13 #[.slice A ws.length c] w fun e w' => ∃ v, e = .returned v ∧ w'.ownsRow w.heap.size 5 1 v (make (bl ws)).length ((make (bl ws)).map vb) ∧ Below w.heap.size w w' := by
  have HS := Lib.hid hs
  have HM : Hid (make (bl ws) = fill (bl ws) (List.replicate (sizeOf' (dn (bl ws) ws.length)) 0)) := Lib.hid (by rw [make, ← dist_dn, bl_len])
  have hdn := dn_le (bl ws) ws.length
  have hN0' : 0 < ws.length → 1 ≤ dn (bl ws) ws.length := fun h => dn_pos (bl ws) ws.length h (by simp [bl])
  have HON := Lib.hid (once_any ws A c w hr hl)
  generalize dn (bl ws) ws.length = n at HM hdn hN0' HON
  clear hs
  go_enter Try.func13, Try.ntmps13
  go_wp2_with fail
  refine HON.out.mono ?_
  rintro e w1 ⟨A', c', rfl, hb1⟩
  have hs1 := hb1.size
  go_wp2_with fail
  go_loop [4] (fun i => ∃ j : Nat, j ≤ (10 * n + 63) / 64 ∧ i = .int .i64 j) (fun i => (10 * n + 63) / 64 - (intOf i).toNat)
  case atStart => exact ⟨0, Nat.zero_le _, rfl⟩
  case round =>
    obtain ⟨j, hj, rfl⟩ := hrel
    rcases Nat.lt_or_ge j ((10 * n + 63) / 64) with hlt | hge
    · have hb : (64 : Int) * (j : Int) < 10 * (n : Int) := by omega
      go_wp2_with fail
      go_round
      case rel => exact ⟨j + 1, by omega, by go_num⟩
      case measure => simp [intOf]; omega
    · have hb : (10 : Int) * (n : Int) ≤ 64 * (j : Int) := by omega
      have hjN := Lib.hid (show 8 * j = sizeOf' n by unfold sizeOf'; omega)
      have hN0 : 0 < ws.length → 0 < j := fun h => by have := hN0' h; omega
      obtain ⟨i, hi, h1, h2, h3⟩ := info_parts infoByte
      go_wp2_with (at_make; go_must (refine wpList_make_full _ rfl _ _ _ rfl w.heap.size 5 i _ 1 Try.underlying23 hi h1 h2 _ _ _ _ (8 * j) rfl rfl (by omega) (by omega) (by rw [h3]; omega) (by unfold maxLen; omega) hs1 ?_))
      intro w2 hown2 hg2
      have hb2 := hb1.grown hg2 hs1 (fun j hj => by cases hj)
      have hs2 := hb2.size
      rw [madeBytes] at hown2
      have hN1 : j ≤ 10000000000 := by omega
      rw [← hjN.out] at HM
      clear hg2 hb1 hi h1 h2 h3 hdn hjN hN0' hb hge hj
      generalize w1.heap.size = g at hown2 ⊢
      go_wp2_with fail
      go_loopw [6] (fun i wr => ∃ k : Nat, k ≤ ws.length ∧ i = .int .i64 k ∧ wr.ownsRow w.heap.size 5 1 (.slice (some ⟨g, 0, none⟩) (8 * j) (8 * j)) (8 * j) ((fill ((bl ws).take k) (List.replicate (8 * j) 0)).map vb) ∧ Below w.heap.size w wr) (fun i _ => ws.length - (intOf i).toNat)
      case atStart => exact ⟨0, Nat.zero_le _, rfl, by simpa [fill] using hown2, hb2⟩
      case round =>
        clear hown2 hb2 hs2
        obtain ⟨k, hk, rfl, hown, hbr⟩ := hrel
        have hsr := hbr.size
        rcases Nat.lt_or_ge k ws.length with hlt | hge
        · obtain ⟨b, off, hA, hblt, hc⟩ := hr.at_ (k := k) (by simpa using hlt)
          cases hA
          have d0 : w.cell? ⟨b, off + k, none⟩ = some (.string ws[k]) := hc k _ (by simp [hlt])
          have HK : Hid (fill ((bl ws).take (k + 1)) (List.replicate (8 * j) 0) = setWord ws[k].data.toList (fill ((bl ws).take k) (List.replicate (8 * j) 0))) := Lib.hid (by rw [fill_take (by simpa [bl] using hlt)]; simp [bl])
          have hF := Lib.hid (show (fill ((bl ws).take k) (List.replicate (8 * j) 0)).length = 8 * j by rw [fill_len]; simp)
          have hsz := HS.out ws[k] (List.getElem_mem _)
          have hNp := hN0 (by omega)
          have HR := Lib.hid hr
          clear hc hr
          generalize ws[k] = s at d0 HK hsz
          generalize fill ((bl ws).take k) (List.replicate (8 * j) 0) = F at hown HK hF
          have HPL := Lib.hid (fun q w (hq : q ≤ 2) => refPlace_any s q (64 * j) w hsz hq (by omega) (by omega))
          have HSW : Hid (setWord s.data.toList F = setTo (fun q => place s.data.toList q (64 * j)) F 3) := Lib.hid (by
            simp only [setWord, setTo, hF.out, show 8 * (8 * j) = 64 * j by omega])
          have HPl := Lib.hid (show ∀ q, place s.data.toList q (64 * j) < 64 * j from fun q => place_lt _ _ (by omega))
          have e8 : ((64 * j : Nat) : Int) = 64 * (j : Int) := by omega
          rw [e8] at HPL
          have D0 := Lib.hid d0
          clear e8 d0
          go_wp2_with fail
          go_loopw [7] (fun i wi => ∃ q : Nat, q ≤ 3 ∧ i = .int .u64 q ∧ wi.ownsRow w.heap.size 5 1 (.slice (some ⟨g, 0, none⟩) (8 * j) (8 * j)) (8 * j) ((setTo (fun q => place s.data.toList q (64 * j)) F q).map vb) ∧ Below w.heap.size w wi) (fun i _ => 3 - (intOf i).toNat)
          case atStart => exact ⟨0, by omega, rfl, hown, hbr⟩
          case round =>
            clear hown hbr hsr
            obtain ⟨q, hq, rfl, hown, hbi⟩ := hrel
            have hsi := hbi.size
            rcases Nat.lt_or_ge q 3 with hj3 | hj3
            · have hp := HPl.out q
              have HJ : Hid (setTo (fun q => place s.data.toList q (64 * j)) F (q + 1) = setBit (setTo (fun q => place s.data.toList q (64 * j)) F q) (place s.data.toList q (64 * j))) := Lib.hid rfl
              have hG := Lib.hid (show (setTo (fun q => place s.data.toList q (64 * j)) F q).length = 8 * j by rw [setTo_len, hF.out])
              obtain ⟨g', hg', hbg, hlg, hfz, hcl, hst⟩ := own_store hown (by omega)
              cases hg'
              have e := hcl (place s.data.toList q (64 * j) / 8) (by omega)
              have fz := hfz (place s.data.toList q (64 * j) / 8)
              have st := hst (place s.data.toList q (64 * j) / 8)
              generalize setTo (fun q => place s.data.toList q (64 * j)) F q = G at hown HJ hG e st
              have e2 : wr.cell? ⟨g, place s.data.toList q (64 * j) / 8, none⟩ = some (.int .u8 ((G.getD (place s.data.toList q (64 * j) / 8) 0).toNat : Int)) := by
                have := hG.out
                rw [e, List.getElem?_map, List.getElem?_eq_getElem (by omega), List.getD, List.getElem?_eq_getElem (by omega)]; rfl
              have HP := Lib.hid (HPL.out q wr (by omega))
              have d1 := (hbi.cell hblt).trans D0.out
              clear e hcl hfz hst
              generalize hpp : place s.data.toList q (64 * j) = p at *
              have hi0 : (p : Int) / 8 < 8 * (j : Int) := by omega
              generalize hy : G.getD (p / 8) 0 = y at e2
              have HRow : Hid ((wr.setCell ⟨g, p / 8, none⟩ (.int .u8 (bits .or .u8 (y.toNat : Int) (2 ^ (p % 8) % 256)))).ownsRow w.heap.size 5 1 (.slice (some ⟨g, 0, none⟩) (8 * j) (8 * j)) (8 * j) ((setBit G p).map vb)) := Lib.hid (by
                have h := (st (.int .u8 (bits .or .u8 (y.toNat : Int) (2 ^ (p % 8) % 256)))).1
                rw [setBit, hy, List.map_set, vb, ← or_val y (p % 8) (by omega)]
                exact h)
              have hb4 : Below w.heap.size w (wr.setCell ⟨g, p / 8, none⟩ (.int .u8 (bits .or .u8 (y.toNat : Int) (2 ^ (p % 8) % 256)))) := hbi.setCell hbg _
              clear st hown hbi hy hpp
              go_wp2_with fail
              refine HP.out.mono ?_
              rintro e w5 ⟨rfl, rfl⟩
              go_wp2_with fail
              go_roundw
              case rel => exact ⟨q + 1, by omega, by go_num, by rw [HJ.out]; exact HRow.out, hb4⟩
              case measure => simp [intOf]; omega
            · obtain rfl : q = 3 := by omega
              go_wp2
              go_roundw
              case rel => exact ⟨k + 1, by omega, by go_num, by rw [HK.out, HSW.out]; exact hown, hbi⟩
              case measure => simp [intOf]; omega
        · obtain rfl : k = ws.length := by omega
          have e : (bl ws).take ws.length = bl ws := by rw [← bl_len, List.take_length]
          rw [e] at hown
          have hML : Hid ((make (bl ws)).length = 8 * j) := Lib.hid (by rw [HM.out, fill_len]; simp)
          clear e
          go_wp2
          go_ret
          exact ⟨_, rfl, by rw [hML.out, HM.out]; exact hown, hbr⟩
end Go.Proofs.Ytpfladolkkhfdaa
