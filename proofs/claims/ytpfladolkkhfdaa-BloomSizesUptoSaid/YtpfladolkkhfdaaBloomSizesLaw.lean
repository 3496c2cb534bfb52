/- BloomSizes: the walk of the law. -/
import Derived.Test.YtpfladolkkhfdaaAwake12
import Derived.Test.YtpfladolkkhfdaaBloomB
import Derived.Deep.RegionWith
namespace Go.Proofs.Ytpfladolkkhfdaa
set_option linter.unusedVariables false
open Go.RowKit

theorem dist_snoc (l : List (List UInt8)) (y : List UInt8) : (dist (l ++ [y])).length = (dist l).length ∨ (dist (l ++ [y])).length = (dist l).length + 1 := by
  unfold dist
  rw [List.foldl_append, List.foldl_cons, List.foldl_nil]
  split
  · exact .inl rfl
  · exact .inr (by rw [List.length_append]; rfl)
theorem make_snoc (l : List (List UInt8)) (y : List UInt8) : (make l).length % 8 = 0 ∧ (make l).length ≤ (make (l ++ [y])).length ∧ (make (l ++ [y])).length ≤ (make l).length + 8 := by
  rw [make_len, make_len, dist_dn, dist_dn]
  have := dist_snoc l y
  unfold sizeOf'
  omega
theorem xor_val (y : UInt8) (e : Nat) (he : e < 8) : bits .xor .u8 (y.toNat : Int) (2 ^ e % 256) = ((y ^^^ (1 <<< UInt8.ofNat e)).toNat : Int) := by
  have hy := y.toNat_lt
  have e1 : ((2 : Int) ^ e % 256) = ((2 ^ e : Nat) : Int) := by
    match e, he with
    | 0, _ => rfl
    | 1, _ => rfl
    | 2, _ => rfl
    | 3, _ => rfl
    | 4, _ => rfl
    | 5, _ => rfl
    | 6, _ => rfl
    | 7, _ => rfl
  have h2 : 2 ^ e < 256 := Nat.pow_lt_pow_right (n := 8) (by omega) he
  rw [e1, u8_xor_nat y.toNat (2 ^ e) (by omega) h2, UInt8.toNat_xor, shl_val e he]

/-- How often one of a word's bits was met among the first k. -/
def CountOk (p0 p1 p2 k o : Nat) : Prop := min 1 (k - p0) ≤ o ∧ o ≤ min 1 (k - p0) + min 1 (k - p1) + min 1 (k - p2)
theorem CountOk.hit {p0 p1 p2 k o : Nat} (h : CountOk p0 p1 p2 k o) (hk : p0 = k ∨ p1 = k ∨ p2 = k) : CountOk p0 p1 p2 (k + 1) (o + 1) := by
  unfold CountOk at *; omega
theorem CountOk.miss {p0 p1 p2 k o : Nat} (h : CountOk p0 p1 p2 k o) (h0 : p0 ≠ k) : CountOk p0 p1 p2 (k + 1) o := by
  unfold CountOk at *; omega

set_option maxHeartbeats 4000000 in
set_option maxRecDepth 100000 in
theorem bloomSizes_any (ws : List ByteArray) (x : ByteArray) (A : Option Addr) (c : Nat) (w : World) (hr : Reads w w.heap.size A (ws.map vs)) (hl : ws.length ≤ 1048576) (hs : ∀ s ∈ ws, s.size ≤ 9223372036854775807) (hx : x.size ≤ 9223372036854775807) :
    Calls Try.prog 6 #[.slice A ws.length c, .string x] w fun e w' => e = .returned (.bool true) ∧ Below w.heap.size w w' := by
  have HS := Lib.hid hs
  obtain ⟨hz0, hz1, hz2⟩ := make_snoc (bl ws) x.data.toList
  have ebl : bl ws ++ [x.data.toList] = bl (ws ++ [x]) := by simp [bl]
  rw [ebl] at hz1 hz2
  have hgw : has (make (bl (ws ++ [x]))) x.data.toList = true := has_make (by simp [bl])
  have hgp : 0 < (make (bl (ws ++ [x]))).length := make_pos (by simp [bl])
  have hfp : 0 < ws.length → 0 < (make (bl ws)).length := fun h => make_pos (by simpa [bl] using h)
  have hlen := make_le (bl ws) (by simpa [bl] using (by omega : ws.length ≤ 1000000000))
  clear hs ebl
  have HGW := Lib.hid hgw
  clear hgw
  go_enter Try.func6, Try.ntmps6
  go_wp2_with fail
  refine (awake12_any _).mono ?_
  rintro e w1 ⟨rfl, hb1⟩
  have hs1 := hb1.size
  have hr1 := (hr.below hb1).more hs1
  go_wp2_with fail
  refine (make_any ws A c w1 hr1 (by omega) HS.out).mono ?_
  rintro e w2 ⟨v, rfl, hown, hb2⟩
  have hs2 := hb2.size
  have hr2 := (hr1.below hb2).more hs2
  obtain ⟨A1, c1, rfl, -⟩ := own_slice hown
  have HB2 := Lib.hid (hb1.trans (hb2.mono hs1))
  clear hown hb1 hb2 hr hr1
  go_wp2_with (first
    | (at_builtin; refine app rowStr rfl (.tmp 13) (.tmp 14) rfl w2.heap.size _ _ _ rfl (World.ownsRow_lit (size := 1) w2 #[] 0 (Nat.le_refl _) (by decide) rfl) w2.heap.size _ _ _ (ws.map vs) rfl (by simp) (by exact hr2.alloc (Nat.le_refl _) _) (oneCell_vs _) (by omega) (by simp) ?_))
  intro v3 w3 hown3 hg3
  have hl0 := World.ownsRow_lit (base := w2.heap.size) (e := 9) (size := 1) w2 #[] 0 (Nat.le_refl _) (by decide) rfl
  have hb3 : Below w2.heap.size w2 w3 := hg3.below ((Below.refl _ _).alloc (Nat.le_refl _) _) hl0 (by simp)
  have hs3 := hb3.size
  clear hg3 hl0
  go_wp2_with (at_builtin; go_must (refine app1b rowStr rfl _ _ rfl _ w2.heap.size _ _ _ rfl (by exact hown3) _ rfl rfl rfl (by omega) hs3 ?_))
  intro v4 w4 hown4 hg4
  have hb4 := hg4.below hb3 hown3 hs3
  have hs4 := hb4.size
  obtain ⟨A4, c4, rfl, hc4, hc4', -⟩ := own_slice hown4
  have HMG := make_any (ws ++ [x]) A4 c4 w4 (by simpa using Reads.of_own hown4) (by simp; omega) (fun s hs => by
    rcases List.mem_append.1 hs with h | h
    · exact HS.out s h
    · rw [List.mem_singleton.1 h]; exact hx)
  have hL : (ws ++ [x]).length = ws.length + 1 := by simp
  rw [hL] at HMG
  have HB4 := Lib.hid (HB2.out.trans (hb4.mono (Nat.le_trans hs1 hs2)))
  have HL : Hid ((make (bl (ws ++ [x]))).length ≤ 20000000000) := Lib.hid (by omega)
  clear hg4 hown3 hown4 hb3 hb4 hL hr2 hc4 hc4'
  generalize make (bl (ws ++ [x])) = G at HMG hz1 hz2 HGW hgp HL
  generalize make (bl ws) = F at hz0 hz1 hz2 hfp hlen ⊢
  go_wp2_with fail
  refine HMG.mono ?_
  rintro e w5 ⟨v, rfl, hown5, hb5⟩
  have hs5 := hb5.size
  obtain ⟨A5, c5, rfl, -⟩ := own_slice hown5
  have hB5 := HB4.out.trans (hb5.mono HB4.out.size)
  have C1 := has_any G A5 c5 x w5 (Reads.of_own hown5) (by have := HL.out; omega) hx
  rw [HGW.out] at C1
  have hf8 : ((F.length : Int) % 8 != 0) = false := by simp; omega
  have hg1 : decide ((G.length : Int) < (F.length : Int)) = false := by simp; omega
  have hg1' : decide (G.length < F.length) = false := decide_eq_false (by omega)
  have hg2 : decide ((G.length : Int) > (F.length : Int) + 8) = false := by simp; omega
  have hG20 := HL.out
  have H58 : ((F.length : Int) == 0) = false ∨ ws.length = 0 := by
    rcases Nat.eq_zero_or_pos ws.length with h0 | h0
    · exact .inr h0
    · have := hfp h0
      exact .inl (by simp only [beq_eq_false_iff_ne, ne_eq]; omega)
  have H59 : ws.length = 0 ∨ (0 < ws.length ∧ ((F.length : Int) == 0) = false) := by
    rcases Nat.eq_zero_or_pos ws.length with h0 | h0
    · exact .inl h0
    · exact .inr ⟨h0, H58.resolve_right (by omega)⟩
  clear H58
  rcases H59 with h0 | ⟨h0, h0'⟩
  all_goals go_wp2_with fail
  all_goals
    refine C1.mono ?_
    rintro e w6 ⟨rfl, hb6⟩
    have hs6 := hb6.size
    have hown6 := own_past hown5 hb6 (Nat.le_refl _)
    have hB6 := hB5.trans (hb6.mono hB5.size)
    have hp0 := place_lt x.data.toList 0 (bits := 8 * G.length) (by omega)
    have HBT : Hid (∀ i, i < 8 * G.length → has (flip G i) x.data.toList = !isBit x.data.toList (8 * G.length) i) := Lib.hid (fun i hi => has_flip hgp HGW.out hi)
    have HC0 : Hid (CountOk (place x.data.toList 0 (8 * G.length)) (place x.data.toList 1 (8 * G.length)) (place x.data.toList 2 (8 * G.length)) 0 0) := Lib.hid (by unfold CountOk; omega)
    have hwb := HB2.out.size
    have hw4 : w.heap.size ≤ w4.heap.size := HB4.out.size
    have HBI : Hid (∀ i, isBit x.data.toList (8 * G.length) i = (decide (place x.data.toList 0 (8 * G.length) = i) || decide (place x.data.toList 1 (8 * G.length) = i) || decide (place x.data.toList 2 (8 * G.length) = i))) := Lib.hid (fun i => rfl)
    clear hown5 hb6 C1 hb5 hB5 HMG
    go_wp2_with fail
    clear hf8 hg1 hg1' hg2 hz0 hz1 hz2 hfp hlen
    generalize place x.data.toList 0 (8 * G.length) = p0 at HC0 hp0 HBI
    generalize place x.data.toList 1 (8 * G.length) = p1 at HC0 HBI
    generalize place x.data.toList 2 (8 * G.length) = p2 at HC0 HBI
    go_loopw [7, 8] (fun o i wr => ∃ k on : Nat, k ≤ 8 * G.length ∧ i = .int .i64 k ∧ o = .int .i64 on ∧ on ≤ k ∧ Hid (CountOk p0 p1 p2 k on) ∧ wr.ownsRow w4.heap.size 5 1 (.slice A5 G.length c5) G.length (G.map vb) ∧ Below w.heap.size w wr) (fun _ i _ => 8 * G.length - (intOf i).toNat)
    case atStart => exact ⟨0, 0, Nat.zero_le _, rfl, rfl, Nat.le_refl _, HC0, hown6, hB6⟩
    case round =>
      clear hown6 hB6 hs6
      obtain ⟨k, on, hk, rfl, rfl, hon, HC, hown, hbr⟩ := hrel
      have hsr := hbr.size
      rcases Nat.lt_or_ge k (8 * G.length) with hlt | hge
      · obtain ⟨g, hg', hbg, hlg, hfz, hcl, hst⟩ := own_store (show wr.drew.ownsRow w4.heap.size 5 1 (.slice A5 G.length c5) G.length (G.map vb) from hown) (by omega)
        cases hg'
        have e := hcl (k / 8) (by omega)
        have fz := hfz (k / 8)
        have e2 : wr.cell? ⟨g, k / 8, none⟩ = some (.int .u8 ((G.getD (k / 8) 0).toNat : Int)) := by
          refine e.trans ?_
          rw [List.getElem?_map, List.getElem?_eq_getElem (by omega), List.getD, List.getElem?_eq_getElem (by omega)]; rfl
        have hF : flip G k = G.set (k / 8) (G.getD (k / 8) 0 ^^^ (1 <<< UInt8.ofNat (k % 8))) := rfl
        obtain ⟨g2, hg2', -, -, -, -, hst2⟩ := own_store hown (by omega)
        cases hg2'
        have HST := Lib.hid (fun u => (hst2 (k / 8) u).1)
        have HFF := Lib.hid (flip_flip (f := G) hlt)
        have HB1 := HBT.out k hlt
        have HFL := Lib.hid (flip_len G k)
        generalize hyy : G.getD (k / 8) 0 = y at e2 hF
        obtain ⟨W1, hW1⟩ : ∃ W1, W1 = (wr.setCell ⟨g, k / 8, none⟩ (.int .u8 (bits .xor .u8 (y.toNat : Int) (2 ^ (k % 8) % 256)))).drew := ⟨_, rfl⟩
        have hR1 : W1.ownsRow w4.heap.size 5 1 (.slice (some ⟨g, 0, none⟩) G.length c5) G.length ((flip G k).map vb) := by
          rw [hW1, hF, List.map_set, vb, ← xor_val y (k % 8) (by omega)]
          exact HST.out _
        have hb1 : Below w.heap.size w W1 := by rw [hW1]; exact (hbr.setCell (Nat.le_trans hw4 hbg) _).drew
        have C2 := has_any (flip G k) (some ⟨g, 0, none⟩) c5 x W1 (Reads.of_own hR1) (by rw [HFL.out]; omega) hx
        rw [HFL.out, HB1] at C2
        have HBK := HBI.out k
        cases hbit : isBit x.data.toList (8 * G.length) k with
        | true =>
          rw [hbit, Bool.not_true] at C2
          have hhit : p0 = k ∨ p1 = k ∨ p2 = k := by
            rw [hbit] at HBK
            have h := HBK.symm
            simp only [Bool.or_eq_true, decide_eq_true_eq] at h
            omega
          have HC2 := Lib.hid (HC.out.hit hhit)
          clear hbit hhit
          have C2' := Lib.hid C2
          have hW1' := Lib.hid hW1
          have ib1 : (k : Int) / 8 < (G.length : Int) := by omega
          have ib3 : (k : Int) < 8 * (G.length : Int) := by omega
          clear e hcl hfz hst hst2 hown hbr HST hF hyy C2 HB1 hW1 HBK
          go_wp2_with fail
          go_region
          go_wp2_with fail
          rw [← hW1'.out]
          refine C2'.out.mono ?_
          rintro e w8 ⟨rfl, hb8⟩
          have hs8 := hb8.size
          have hown8 := own_past hR1 hb8 (Nat.le_refl _)
          have hbr8 := hb1.trans (hb8.mono hb1.size)
          obtain ⟨g3, hg3', hbg3, -, hfz3, hcl3, hst3⟩ := own_store (show w8.drew.ownsRow w4.heap.size 5 1 (.slice (some ⟨g, 0, none⟩) G.length c5) G.length ((flip G k).map vb) from hown8) (by omega)
          cases hg3'
          have e3 := hcl3 (k / 8) (by omega)
          have fz3 := hfz3 (k / 8)
          have e4 : w8.cell? ⟨g, k / 8, none⟩ = some (.int .u8 (((flip G k).getD (k / 8) 0).toNat : Int)) := by
            have := HFL.out
            refine e3.trans ?_
            rw [List.getElem?_map, List.getElem?_eq_getElem (by omega), List.getD, List.getElem?_eq_getElem (by omega)]; rfl
          have HST3 := Lib.hid (fun u => (hst3 (k / 8) u).1)
          have hF3 : G = (flip G k).set (k / 8) ((flip G k).getD (k / 8) 0 ^^^ (1 <<< UInt8.ofNat (k % 8))) := HFF.out.symm
          have HF3 := Lib.hid hF3
          clear e3 hcl3 hfz3 hst3 hF3 hown8 hR1 hb1 hb8 e2 fz hbg
          generalize flip G k = GG at e4 HF3 HST3
          generalize GG.getD (k / 8) 0 = y3 at e4 HF3
          have HRW : Hid ((w8.drew.setCell ⟨g, k / 8, none⟩ (.int .u8 (bits .xor .u8 (y3.toNat : Int) (2 ^ (k % 8) % 256)))).ownsRow w4.heap.size 5 1 (.slice (some ⟨g, 0, none⟩) G.length c5) G.length (G.map vb)) := Lib.hid (by
            have h := HST3.out (.int .u8 (bits .xor .u8 (y3.toNat : Int) (2 ^ (k % 8) % 256)))
            have e : (G.map vb) = (GG.map vb).set (k / 8) (.int .u8 (bits .xor .u8 (y3.toNat : Int) (2 ^ (k % 8) % 256))) := by
              conv => lhs; rw [HF3.out]
              rw [List.map_set, vb, xor_val y3 (k % 8) (by omega)]
            rw [e]
            exact h)
          have hb9 : Below w.heap.size w (w8.drew.setCell ⟨g, k / 8, none⟩ (.int .u8 (bits .xor .u8 (y3.toNat : Int) (2 ^ (k % 8) % 256)))) := hbr8.drew.setCell (Nat.le_trans hw4 hbg3) _
          clear HST3 hbr8
          go_wp2_with fail
          go_region
          go_wp2_with fail
          go_roundw
          case rel => exact ⟨k + 1, on + 1, by omega, by go_num, by go_num, by omega, HC2, HRW.out, hb9⟩
          case measure => simp [intOf]; omega
        | false =>
          rw [hbit, Bool.not_false] at C2
          have hmiss : p0 ≠ k := by
            rintro rfl
            rw [hbit] at HBK
            simp at HBK
          have HC2 := Lib.hid (HC.out.miss hmiss)
          clear hbit hmiss
          have C2' := Lib.hid C2
          have hW1' := Lib.hid hW1
          have ib1 : (k : Int) / 8 < (G.length : Int) := by omega
          have ib3 : (k : Int) < 8 * (G.length : Int) := by omega
          clear e hcl hfz hst hst2 hown hbr HST hF hyy C2 HB1 hW1 HBK
          go_wp2_with fail
          go_region
          go_wp2_with fail
          rw [← hW1'.out]
          refine C2'.out.mono ?_
          rintro e w8 ⟨rfl, hb8⟩
          have hs8 := hb8.size
          have hown8 := own_past hR1 hb8 (Nat.le_refl _)
          have hbr8 := hb1.trans (hb8.mono hb1.size)
          obtain ⟨g3, hg3', hbg3, -, hfz3, hcl3, hst3⟩ := own_store (show w8.drew.ownsRow w4.heap.size 5 1 (.slice (some ⟨g, 0, none⟩) G.length c5) G.length ((flip G k).map vb) from hown8) (by omega)
          cases hg3'
          have e3 := hcl3 (k / 8) (by omega)
          have fz3 := hfz3 (k / 8)
          have e4 : w8.cell? ⟨g, k / 8, none⟩ = some (.int .u8 (((flip G k).getD (k / 8) 0).toNat : Int)) := by
            have := HFL.out
            refine e3.trans ?_
            rw [List.getElem?_map, List.getElem?_eq_getElem (by omega), List.getD, List.getElem?_eq_getElem (by omega)]; rfl
          have HST3 := Lib.hid (fun u => (hst3 (k / 8) u).1)
          have hF3 : G = (flip G k).set (k / 8) ((flip G k).getD (k / 8) 0 ^^^ (1 <<< UInt8.ofNat (k % 8))) := HFF.out.symm
          have HF3 := Lib.hid hF3
          clear e3 hcl3 hfz3 hst3 hF3 hown8 hR1 hb1 hb8 e2 fz hbg
          generalize flip G k = GG at e4 HF3 HST3
          generalize GG.getD (k / 8) 0 = y3 at e4 HF3
          have HRW : Hid ((w8.drew.setCell ⟨g, k / 8, none⟩ (.int .u8 (bits .xor .u8 (y3.toNat : Int) (2 ^ (k % 8) % 256)))).ownsRow w4.heap.size 5 1 (.slice (some ⟨g, 0, none⟩) G.length c5) G.length (G.map vb)) := Lib.hid (by
            have h := HST3.out (.int .u8 (bits .xor .u8 (y3.toNat : Int) (2 ^ (k % 8) % 256)))
            have e : (G.map vb) = (GG.map vb).set (k / 8) (.int .u8 (bits .xor .u8 (y3.toNat : Int) (2 ^ (k % 8) % 256))) := by
              conv => lhs; rw [HF3.out]
              rw [List.map_set, vb, xor_val y3 (k % 8) (by omega)]
            rw [e]
            exact h)
          have hb9 : Below w.heap.size w (w8.drew.setCell ⟨g, k / 8, none⟩ (.int .u8 (bits .xor .u8 (y3.toNat : Int) (2 ^ (k % 8) % 256)))) := hbr8.drew.setCell (Nat.le_trans hw4 hbg3) _
          clear HST3 hbr8
          go_wp2_with fail
          go_region
          go_wp2_with fail
          go_roundw
          case rel => exact ⟨k + 1, on, by omega, by go_num, by go_num, by omega, HC2, HRW.out, hb9⟩
          case measure => simp [intOf]; omega
      · obtain rfl : k = 8 * G.length := by omega
        have h13 : 1 ≤ on ∧ on ≤ 3 := by have h := HC.out; unfold CountOk at h; omega
        have q3 : decide ((on : Int) ≤ 3) = true := by simp; omega
        have q1 : decide ((on : Int) ≥ 1) = true := by simp; omega
        go_wp2_with fail
        go_ret
        exact ⟨rfl, hbr⟩
end Go.Proofs.Ytpfladolkkhfdaa
