/- The walk of making a filter: the program's. -/
import Derived.Test.YtpfladolkkhfdaaBloomHas
import Derived.Maps.OwnSet
namespace Go.Proofs.Ytpfladolkkhfdaa
set_option linter.unusedVariables false
open Go.RowKit Go.Maps

abbrev vs (s : ByteArray) : Value := .string s
/-- What the words are, as lists of bytes. -/
def bl (ws : List ByteArray) : List (List UInt8) := ws.map fun s => s.data.toList
/-- How many of the first k are distinct. -/
def dn (ws : List (List UInt8)) : Nat → Nat
  | 0 => 0
  | k + 1 => match ws[k]? with | some w => if w ∈ ws.take k then dn ws k else dn ws k + 1 | none => dn ws k
theorem dn_le (ws : List (List UInt8)) : ∀ k, dn ws k ≤ k
  | 0 => Nat.le_refl _
  | k + 1 => by
    have := dn_le ws k
    simp only [dn]
    split
    · split <;> omega
    · omega

/-- The map after k words. -/
def mk (ws : List ByteArray) (k : Nat) : DataW Unit := (ws.take k).foldl (fun m s => m.put (.string s.data.toList) (.lit (.int .i64 1))) (.map [])
theorem mk_succ {ws : List ByteArray} {k : Nat} (h : k < ws.length) : mk ws (k + 1) = (mk ws k).put (.string ws[k].data.toList) (.lit (.int .i64 1)) := by
  unfold mk
  rw [List.take_succ_eq_append_getElem h, List.foldl_append, List.foldl_cons, List.foldl_nil]
theorem mk_tidy (ws : List ByteArray) : ∀ k, Tidy (mk ws k)
  | 0 => by simp only [mk, List.take_zero, List.foldl_nil]; exact tidy_empty
  | k + 1 => by
    rcases Nat.lt_or_ge k ws.length with h | h
    · rw [mk_succ h]; exact (mk_tidy ws k).put (by simp [WideAt.IsKeyLit]) _
    · have : mk ws (k + 1) = mk ws k := by unfold mk; rw [List.take_of_length_le (by omega), List.take_of_length_le h]
      rw [this]; exact mk_tidy ws k
theorem mk_has (ws : List ByteArray) (l : List UInt8) : ∀ k, k ≤ ws.length → (Maps.has (mk ws k) (.string l) = true ↔ l ∈ (bl ws).take k)
  | 0, _ => by simp [mk, Maps.has]
  | k + 1, h => by
    have ih := mk_has ws l k (by omega)
    have hk : k < ws.length := by omega
    have hb : k < (bl ws).length := by simpa [bl] using hk
    rw [mk_succ hk, List.take_succ_eq_append_getElem hb, List.mem_append, ← ih]
    have e : (bl ws)[k] = ws[k].data.toList := by simp [bl]
    rw [e]
    by_cases he : ws[k].data.toList = l
    · subst he
      rw [has_put_same (mk_tidy ws k).isMap (by simp [WideAt.IsKeyLit])]
      simp
    · rw [has_put_other (by intro h; injection h with h; exact he h.symm)]
      simp [Ne.symm he]
theorem mk_size (ws : List ByteArray) : ∀ k, k ≤ ws.length → Maps.size (mk ws k) = dn (bl ws) k
  | 0, _ => rfl
  | k + 1, h => by
    have hk : k < ws.length := by omega
    have hb : k < (bl ws).length := by simpa [bl] using hk
    have e : (bl ws)[k] = ws[k].data.toList := by simp [bl]
    rw [mk_succ hk, size_put (mk_tidy ws k), mk_size ws k (by omega)]
    simp only [dn, List.getElem?_eq_getElem hb, e]
    have := mk_has ws ws[k].data.toList k (by omega)
    by_cases hm : ws[k].data.toList ∈ (bl ws).take k
    · rw [if_pos hm, if_pos (this.2 hm)]
    · rw [if_neg hm, if_neg (fun h => hm (this.1 h))]

theorem bl_len (ws : List ByteArray) : (bl ws).length = ws.length := by simp [bl]
theorem dn_pos (ws : List (List UInt8)) : ∀ k, 0 < k → k ≤ ws.length → 1 ≤ dn ws k
  | 0, h, _ => by omega
  | k + 1, _, h => by
    have hk : k < ws.length := by omega
    simp only [dn, List.getElem?_eq_getElem hk]
    by_cases h0 : k = 0
    · subst h0; simp
    · have := dn_pos ws k (by omega) (by omega)
      split <;> omega
theorem dist_take {ws : List (List UInt8)} {k : Nat} (h : k < ws.length) : dist (ws.take (k + 1)) = if ws[k] ∈ dist (ws.take k) then dist (ws.take k) else dist (ws.take k) ++ [ws[k]] := by
  unfold dist
  rw [List.take_succ_eq_append_getElem h, List.foldl_append, List.foldl_cons, List.foldl_nil]
theorem mem_dist_take (ws : List (List UInt8)) (l : List UInt8) : ∀ k, k ≤ ws.length → (l ∈ dist (ws.take k) ↔ l ∈ ws.take k)
  | 0, _ => by simp [dist]
  | k + 1, h => by
    have hk : k < ws.length := by omega
    have ih := mem_dist_take ws l k (by omega)
    have ih2 := mem_dist_take ws ws[k] k (by omega)
    rw [dist_take hk, List.take_succ_eq_append_getElem hk, List.mem_append]
    split
    · rename_i hm
      rw [ih]
      constructor
      · exact .inl
      · rintro (h | h)
        · exact h
        · rw [List.mem_singleton.1 h]; exact ih2.1 hm
    · rw [List.mem_append, ih]
theorem dist_dn_take (ws : List (List UInt8)) : ∀ k, k ≤ ws.length → (dist (ws.take k)).length = dn ws k
  | 0, _ => by simp [dist, dn]
  | k + 1, h => by
    have hk : k < ws.length := by omega
    have ih := dist_dn_take ws k (by omega)
    have ih2 := mem_dist_take ws ws[k] k (by omega)
    rw [dist_take hk]
    simp only [dn, List.getElem?_eq_getElem hk]
    by_cases hm : ws[k] ∈ ws.take k
    · rw [if_pos hm, if_pos (ih2.2 hm), ih]
    · rw [if_neg hm, if_neg (fun h => hm (ih2.1 h)), List.length_append, ih]; rfl
theorem dist_dn (ws : List (List UInt8)) : dn ws ws.length = (dist ws).length := by
  rw [← dist_dn_take ws ws.length (Nat.le_refl _), List.take_length]
/-- The first j of a word's bits. -/
def setTo (P : Nat → Nat) (f : List UInt8) : Nat → List UInt8
  | 0 => f
  | j + 1 => setBit (setTo P f j) (P j)
theorem setTo_len (P : Nat → Nat) (f : List UInt8) : ∀ j, (setTo P f j).length = f.length
  | 0 => rfl
  | j + 1 => by rw [setTo, setBit_len, setTo_len P f j]

theorem or_val (y : UInt8) (e : Nat) (he : e < 8) : bits .or .u8 (y.toNat : Int) (2 ^ e % 256) = ((y ||| (1 <<< UInt8.ofNat e)).toNat : Int) := by
  have hy := y.toNat_lt
  have e1 : ((2 : Int) ^ e % 256) = ((2 ^ e : Nat) : Int) := by
    match e, he with
    | 0, _ => rfl
    | 1, _ => rfl
    | 2, _ => rfl
    | 3, _ => rfl
    | 4, _ => rfl
    | 5, _ => rfl
    | 6, _ => rfl
    | 7, _ => rfl
  have h2 : 2 ^ e < 256 := Nat.pow_lt_pow_right (n := 8) (by omega) he
  rw [e1, u8_or_nat y.toNat (2 ^ e) (by omega) h2, UInt8.toNat_or, shl_val e he]

theorem lawStr : Keyed Try.prog 9 := string_keyed Try.underlying9
theorem madeBytes (n : Nat) : (madeCells #[Value.int .u8 0] n).toList = (List.replicate n (0 : UInt8)).map vb := by
  refine List.ext_getElem? fun j => ?_
  simp only [madeCells, List.getElem?_map, List.getElem?_replicate, Array.getElem?_toList, Array.getElem?_map, Array.getElem?_range]
  split <;> simp [Nat.mod_one]

set_option maxHeartbeats 2000000 in
set_option maxRecDepth 100000 in
theorem make_any (ws : List ByteArray) (A : Option Addr) (c : Nat) (w : World) (hr : Reads w w.heap.size A (ws.map vs)) (hl : ws.length ≤ 1000000000) (hs : ∀ s ∈ ws, s.size ≤ 9223372036854775807) :
    Calls Try.prog 12 #[.slice A ws.length c] w fun e w' => ∃ v, e = .returned v ∧ w'.ownsRow w.heap.size 5 1 v (make (bl ws)).length ((make (bl ws)).map vb) ∧ Below w.heap.size w w' := by
  have hmm := @run_makeMap Try.prog
  have HS := Lib.hid hs
  clear hs
  go_enter Try.func12, Try.ntmps12
  go_wp2
  go_loopw [14] (fun i wr => ∃ k : Nat, k ≤ ws.length ∧ i = .int .i64 k ∧ wr.ownsMap Try.prog 9 (plainElem (H := Unit) Try.prog 3) w.heap.size k (mk ws k) ∧ Below w.heap.size w wr) (fun i _ => ws.length - (intOf i).toNat)
  case atStart => exact ⟨0, Nat.zero_le _, rfl, World.ownsMap_made _ _ _ _, (Below.refl _ _).alloc (Nat.le_refl _) _⟩
  case round =>
    obtain ⟨k, hk, rfl, hown, hbr⟩ := hrel
    have hsr := hbr.size
    rcases Nat.lt_or_ge k ws.length with hlt | hge
    · obtain ⟨b, off, rfl, hblt, hc⟩ := hr.at_ (k := k) (by simpa using hlt)
      have d1 : wr.cell? ⟨b, off + k, none⟩ = some (.string ws[k]) := (hbr.cell hblt).trans (hc k _ (by simp [hlt]))
      have hkey : keyOf Try.prog 9 (.string ws[k]) = some (.string ws[k].data.toList) := WideMaps.keyOf_string_mk Try.underlying9 (by have := HS.out ws[k] (List.getElem_mem _); unfold maxLen; omega)
      have HK := Lib.hid (mk_succ hlt)
      have HR := Lib.hid hr
      clear hc hr
      generalize ws[k] = s at d1 hkey HK
      go_wp2_with (at_mapUpdate; go_must (refine wpList_mapUpdate_own _ rfl _ _ _ 51 rfl 9 3 lawStr Try.underlying51 _ w.heap.size k _ rfl hown (by unfold maxLen; omega) _ _ _ rfl rfl hkey _ [] (plainElem_int Try.underlying3 (WalkArith.wf_i64 (by omega))) ?_))
      intro w1 hown1 hgrow1
      have hb2 := hbr.grown hgrow1 hsr (fun j hj => by cases hj; exact Nat.le_refl _)
      rw [← HK.out] at hown1
      clear hown hgrow1 hbr d1
      go_wp2_with fail
      go_roundw
      case rel => exact ⟨k + 1, by omega, by go_num, hown1, hb2⟩
      case measure => simp [intOf]; omega
    · obtain rfl : k = ws.length := by omega
      have HZ := Lib.hid (mk_size ws ws.length (Nat.le_refl _))
      obtain ⟨i, hi, h1, h2, h3⟩ := info_parts infoByte
      have hdn := dn_le (bl ws) ws.length
      obtain ⟨n, hn⟩ : ∃ n, dn (bl ws) ws.length = n := ⟨_, rfl⟩
      rw [hn] at HZ hdn
      have HN := Lib.hid hn
      clear hn
      go_wp2_with (first
        | (at_len; go_must (refine wpList_len_own _ rfl _ _ rfl 9 3 Try.underlying51 _ w.heap.size _ _ rfl hown ?_); rw [HZ.out])
        | (at_make; go_must (refine wpList_make_full _ rfl _ _ _ rfl w.heap.size 5 i _ 1 Try.underlying23 hi h1 h2 _ _ _ _ (sizeOf' n) rfl rfl (by unfold sizeOf'; omega) (by unfold sizeOf'; omega) (by rw [h3]; unfold sizeOf'; omega) (by unfold sizeOf' maxLen; omega) hsr ?_)))
      intro w2 hown2 hg2
      have hb2 := hbr.grown hg2 hsr (fun j hj => by cases hj)
      have hs2 := hb2.size
      rw [madeBytes] at hown2
      have HMK : Hid (make (bl ws) = fill (bl ws) (List.replicate (sizeOf' n) 0)) := Lib.hid (by rw [make, ← dist_dn, bl_len, HN.out])
      have hN0 : 0 < ws.length → 0 < sizeOf' n := fun h => by
        have := dn_pos (bl ws) ws.length h (by simp [bl])
        rw [HN.out] at this
        unfold sizeOf'; omega
      have hN1 : sizeOf' n ≤ 10000000000 := by unfold sizeOf'; omega
      clear hg2 hown hbr hsr HN HZ hi h1 h2 h3 hdn
      generalize sizeOf' n = N at hown2 hN0 hN1 HMK ⊢
      generalize wr.heap.size = g at hown2 ⊢
      go_wp2_with fail
      go_loopw [30] (fun i wr => ∃ k : Nat, k ≤ ws.length ∧ i = .int .i64 k ∧ wr.ownsRow w.heap.size 5 1 (.slice (some ⟨g, 0, none⟩) N N) N ((fill ((bl ws).take k) (List.replicate N 0)).map vb) ∧ Below w.heap.size w wr) (fun i _ => ws.length - (intOf i).toNat)
      case atStart => exact ⟨0, Nat.zero_le _, rfl, by simpa [fill] using hown2, hb2⟩
      case round =>
        clear hown2 hb2 hs2
        obtain ⟨k, hk, rfl, hown, hbr⟩ := hrel
        have hsr := hbr.size
        rcases Nat.lt_or_ge k ws.length with hlt | hge
        · obtain ⟨b, off, hA, hblt, hc⟩ := hr.at_ (k := k) (by simpa using hlt)
          cases hA
          have d1 : wr.cell? ⟨b, off + k, none⟩ = some (.string ws[k]) := (hbr.cell hblt).trans (hc k _ (by simp [hlt]))
          have HK : Hid (fill ((bl ws).take (k + 1)) (List.replicate N 0) = setWord ws[k].data.toList (fill ((bl ws).take k) (List.replicate N 0))) := Lib.hid (by rw [fill_take (by simpa [bl] using hlt)]; simp [bl])
          have hF : (fill ((bl ws).take k) (List.replicate N 0)).length = N := by rw [fill_len]; simp
          have hsz := HS.out ws[k] (List.getElem_mem _)
          have hNp := hN0 (by omega)
          have HR := Lib.hid hr
          clear hc hr
          generalize ws[k] = s at d1 HK hsz
          generalize fill ((bl ws).take k) (List.replicate N 0) = F at hown HK hF
          have HPL := Lib.hid (fun w => places_any s (8 * N) w hsz (by omega) (by omega))
          have HSW : Hid (setWord s.data.toList F = setTo (fun j => place s.data.toList j (8 * N)) F 3) := Lib.hid (by simp only [setWord, setTo, hF])
          have hPl : ∀ j, place s.data.toList j (8 * N) < 8 * N := fun j => place_lt _ _ (by omega)
          have e8 : ((8 * N : Nat) : Int) = 8 * (N : Int) := by omega
          rw [e8] at HPL
          clear e8
          go_wp2_with fail
          refine (HPL.out _).mono ?_
          rintro e w3 ⟨rfl, hb3⟩
          have hown3 := own_past hown hb3 (Nat.le_refl _)
          have hbr3 := hbr.trans (hb3.mono hsr)
          have X : ∀ j : Nat, j < 3 → ∀ w, (Instr.index 52 (.agg #[.int .u64 (place s.data.toList 0 (8 * N) : Int), .int .u64 (place s.data.toList 1 (8 * N) : Int), .int .u64 (place s.data.toList 2 (8 * N) : Int)]) (.int .i64 (j : Int))).run Try.prog w = .ok (.int .u64 (place s.data.toList j (8 * N) : Int)) w := by
            intro j hj
            have : j = 0 ∨ j = 1 ∨ j = 2 := by omega
            rcases this with rfl | rfl | rfl <;> (intro w; kernel_rfl)
          have HX := Lib.hid X
          have HPl := Lib.hid hPl
          clear X HPL hown hbr hb3 d1 hPl
          go_wp2_with fail
          go_loopw [40] (fun i wi => ∃ j : Nat, j ≤ 3 ∧ i = .int .i64 j ∧ wi.ownsRow w.heap.size 5 1 (.slice (some ⟨g, 0, none⟩) N N) N ((setTo (fun j => place s.data.toList j (8 * N)) F j).map vb) ∧ Below w.heap.size w wi) (fun i _ => 3 - (intOf i).toNat)
          case atStart => exact ⟨0, by omega, rfl, hown3, hbr3⟩
          case round =>
            clear hown3 hbr3 hsr
            obtain ⟨j, hj, rfl, hown, hbi⟩ := hrel
            have hsi := hbi.size
            rcases Nat.lt_or_ge j 3 with hj3 | hj3
            · have xj := HX.out j hj3
              have hp := HPl.out j
              have HJ : Hid (setTo (fun j => place s.data.toList j (8 * N)) F (j + 1) = setBit (setTo (fun j => place s.data.toList j (8 * N)) F j) (place s.data.toList j (8 * N))) := Lib.hid rfl
              have hG : (setTo (fun j => place s.data.toList j (8 * N)) F j).length = N := by rw [setTo_len, hF]
              obtain ⟨g', hg', hbg, hlg, hfz, hcl, hst⟩ := own_store hown (by omega)
              cases hg'
              have e := hcl (place s.data.toList j (8 * N) / 8) (by omega)
              have fz := hfz (place s.data.toList j (8 * N) / 8)
              have st := hst (place s.data.toList j (8 * N) / 8)
              generalize setTo (fun j => place s.data.toList j (8 * N)) F j = G at hown HJ hG e st
              have e2 : wr.cell? ⟨g, place s.data.toList j (8 * N) / 8, none⟩ = some (.int .u8 ((G.getD (place s.data.toList j (8 * N) / 8) 0).toNat : Int)) := by
                rw [e, List.getElem?_map, List.getElem?_eq_getElem (by omega), List.getD, List.getElem?_eq_getElem (by omega)]; rfl
              clear e hcl hfz hst
              generalize hpp : place s.data.toList j (8 * N) = p at *
              have hi0 : (p : Int) / 8 < (N : Int) := by omega
              generalize hy : G.getD (p / 8) 0 = y at e2
              have HRow : Hid ((wr.setCell ⟨g, p / 8, none⟩ (.int .u8 (bits .or .u8 (y.toNat : Int) (2 ^ (p % 8) % 256)))).ownsRow w.heap.size 5 1 (.slice (some ⟨g, 0, none⟩) N N) N ((setBit G p).map vb)) := Lib.hid (by
                have h := (st (.int .u8 (bits .or .u8 (y.toNat : Int) (2 ^ (p % 8) % 256)))).1
                rw [setBit, hy, List.map_set, vb, ← or_val y (p % 8) (by omega)]
                exact h)
              have hb4 : Below w.heap.size w (wr.setCell ⟨g, p / 8, none⟩ (.int .u8 (bits .or .u8 (y.toNat : Int) (2 ^ (p % 8) % 256)))) := hbi.setCell hbg _
              clear st hown hbi hy
              go_wp2
              go_roundw
              case rel => exact ⟨j + 1, by omega, by go_num, by rw [HJ.out]; exact HRow.out, hb4⟩
              case measure => simp [intOf]; omega
            · obtain rfl : j = 3 := by omega
              go_wp2
              go_roundw
              case rel => exact ⟨k + 1, by omega, by go_num, by rw [HK.out, HSW.out]; exact hown, hbi⟩
              case measure => simp [intOf]; omega
        · obtain rfl : k = ws.length := by omega
          have e : (bl ws).take ws.length = bl ws := by rw [← bl_len, List.take_length]
          rw [e] at hown
          have hML : Hid ((make (bl ws)).length = N) := Lib.hid (by rw [HMK.out, fill_len]; simp)
          clear e
          go_wp2
          go_ret
          exact ⟨_, rfl, by rw [hML.out, HMK.out]; exact hown, hbr⟩
end Go.Proofs.Ytpfladolkkhfdaa
