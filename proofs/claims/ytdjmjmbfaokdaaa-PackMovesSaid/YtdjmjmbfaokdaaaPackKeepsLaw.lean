/- PackKeeps: the walk of the law. -/
import Derived.Test.YtdjmjmbfaokdaaaPackTightLaw
namespace Go.Proofs.Ytdjmjmbfaokdaaa
set_option linter.unusedVariables false
open Go.RowKit
open Varm Pk

theorem pack_err {l : List UInt64} {C : List UInt8} {e : Nat} (h : pack l = (C, e)) (he : 0 < e) : C = [] := by
  unfold pack at h
  repeat' split at h
  all_goals
    simp only [Prod.mk.injEq] at h
    first
    | exact h.1.symm
    | exact absurd h.2 (by omega)

set_option maxHeartbeats 4000000 in
set_option maxRecDepth 100000 in
theorem packKeeps_any (l : List UInt64) (A : Option Addr) (c : Nat) (w : World) (hq : Reads w w.heap.size A (l.map vq)) (hc : l.length ≤ c) (hl : l.length ≤ 1048576) :
    Calls Try.prog 12 #[.slice A l.length c] w fun e w' => e = .returned (.bool true) ∧ Below w.heap.size w w' := by
  go_enter Try.func12, Try.ntmps12
  go_wp2_with fail
  refine (awake3_any _).mono ?_
  rintro e w1 ⟨rfl, hb1⟩
  have hs1 := hb1.size
  go_wp2_with (at_builtin; go_must (refine app rowNum rfl (.tmp 17) (.tmp 18) rfl w1.heap.size _ _ _ rfl (World.ownsRow_lit (size := 1) w1 #[] 0 (Nat.le_refl _) (by decide) rfl) w.heap.size _ _ _ (l.map vq) rfl (by simp) (by exact (hq.below hb1).alloc hs1 _) (oneCell_vq _) (by omega) (by simp) ?_))
  intro v2 w2 hown2 hg2
  have hl0 := World.ownsRow_lit (base := w1.heap.size) (e := 33) (size := 1) w1 #[] 0 (Nat.le_refl _) (by decide) rfl
  have hb2 : Below w1.heap.size w1 w2 := hg2.below ((Below.refl w1.heap.size w1).alloc (Nat.le_refl _) _) hl0 (by simp)
  have hs2 := hb2.size
  go_wp2_with (at_builtin; go_must (refine app1k rowNum rfl _ _ rfl _ w1.heap.size _ _ _ rfl (by exact hown2) _ rfl rfl rfl (by omega) (by omega) ?_))
  intro v3 w3 hown3 hg3
  have hb3 : Below w1.heap.size w1 w3 := hg3.below hb2 hown2 hs2
  have hs3 := hb3.size
  have hb03 := hb1.trans (hb3.mono hs1)
  have hown3' : w3.ownsRow w1.heap.size 33 1 v3 (l.length + 1) ((l ++ [77]).map vq) := by
    have e : (l ++ [77]).map vq = [] ++ l.map vq ++ [.int .u64 77] := by simp [vq]
    rw [e]; first | exact hown3 | simpa using hown3
  clear hg2 hg3 hown2 hl0 hb2 hb3 hb1 hown3
  obtain ⟨A3, c3, rfl, hc3, hm3, -⟩ := own_slice hown3'
  unfold maxLen at hm3
  have hr3 : Reads w3 w3.heap.size A3 (l.map vq) := by
    have := (Reads.of_own hown3').take l.length
    rwa [List.map_append, List.take_left' (by simp)] at this
  go_wp2_with fail
  refine (pack_any l A3 c3 w3 w3.heap.size hr3 (Nat.le_refl _) (by omega) (by omega)).mono ?_
  rintro e w4 ⟨v4, rfl, hown4, hb4⟩
  obtain ⟨A4, c4, rfl, -, -⟩ := own_slice hown4
  have hs4 := hb4.size
  have hb04 := hb03.trans (hb4.mono (by omega))
  have hown34 := own_past hown3' hb4 (Nat.le_refl _)
  have hr34 := (hr3.below hb4).more hs4
  have hq4 := (hq.below hb04).more (by have := hb04.size; omega)
  obtain ⟨C, e1, hp⟩ : ∃ C e1, pack l = (C, e1) := ⟨_, _, rfl⟩
  rw [hp] at hown4 ⊢
  simp only at hown4 ⊢
  obtain ⟨g3, rfl, -, hg3, -, hcell, -⟩ := own_store hown34 (by omega)
  have h77 := hcell l.length (by omega)
  rw [List.map_append, List.getElem?_append_right (by simp)] at h77
  simp only [List.length_map, Nat.sub_self, List.map_cons, List.map_nil, List.getElem?_cons_zero] at h77
  replace h77 : w4.cell? ⟨g3, l.length, none⟩ = some (.int .u64 77) := h77
  clear hcell hown3' hown34 hr3 hb03 hb4
  rcases Nat.eq_zero_or_pos e1 with he | he
  · subst he
    have hCl := pack_len hp
    have hU := unpack_pack hp [] []
    rw [List.nil_append, List.append_nil] at hU
    have hU2 : unpack C 0 = (l, C.length, 0) := by
      have := hU; simpa using this
    clear hU hp
    have hsm := same_yes l (some ⟨g3, 0, none⟩) A c3 c w4 w4.heap.size hr34 hq4 (by omega)
    have HSM := Lib.hid hsm
    have HQ := Lib.hid hq
    clear hsm hr34 hq4 hq
    simp only [castZ]
    go_wp2_with fail
    refine HSM.out.mono ?_
    rintro e w5 ⟨rfl, nn, rfl⟩
    have hown5 : (w4.drewN nn).ownsRow w3.heap.size 5 1 (.slice A4 C.length c4) C.length (C.map vb) := hown4
    have hb05 := below_drewN (n := nn) hb04
    have h77' : (w4.drewN nn).cell? ⟨g3, l.length, none⟩ = some (.int .u64 77) := h77
    have hs5 : w3.heap.size ≤ (w4.drewN nn).heap.size := hs4
    clear hown4 hb04 h77 HSM hs4
    generalize w4.drewN nn = w5 at *
    have hrC := Reads.of_own hown5
    go_wp2_with (at_builtin; go_must (refine app rowByte rfl _ _ rfl w5.heap.size _ _ _ rfl (World.ownsRow_lit (size := 1) w5 #[] 0 (Nat.le_refl _) (by decide) rfl) w5.heap.size _ _ _ (C.map vb) rfl (by simp) (by exact hrC.alloc (Nat.le_refl _) _) (oneCell_vb _) (by omega) (by simp) ?_))
    intro v6 w6 hown6 hg6
    have hl0 := World.ownsRow_lit (base := w5.heap.size) (e := 5) (size := 1) w5 #[] 0 (Nat.le_refl _) (by decide) rfl
    have hb6 : Below w5.heap.size w5 w6 := hg6.below ((Below.refl w5.heap.size w5).alloc (Nat.le_refl _) _) hl0 (by simp)
    have hs6 := hb6.size
    go_wp2_with (at_builtin; go_must (refine app1k rowByte rfl _ _ rfl _ w5.heap.size _ _ _ rfl (by exact hown6) _ rfl rfl rfl (by omega) (by omega) ?_))
    intro v7 w7 hown7 hg7
    have hb7 : Below w5.heap.size w5 w7 := hg7.below hb6 hown6 hs6
    have hs7 := hb7.size
    have hb07 := hb05.trans (hb7.mono (by have := hb05.size; omega))
    have hown7' : w7.ownsRow w5.heap.size 5 1 v7 (C.length + 1) ((C ++ [9]).map vb) := by
      have e : (C ++ [9]).map vb = [] ++ C.map vb ++ [.int .u8 9] := by simp [vb]
      rw [e]; first | exact hown7 | simpa using hown7
    clear hg6 hg7 hown6 hl0 hb6 hb7 hown7 hrC hb05 hown5 h77'
    obtain ⟨A7, c7, rfl, hc7, hm7, -⟩ := own_slice hown7'
    unfold maxLen at hm7
    have hr7 : Reads w7 w7.heap.size A7 (C.map vb) := by
      have := (Reads.of_own hown7').take C.length
      rwa [List.map_append, List.take_left' (by simp)] at this
    have h8 := unpack_any C A7 c7 0 w7 w7.heap.size hr7 (Nat.le_refl _) (by omega) hm7 (by omega)
    unfold UAns at h8
    rw [hU2] at h8
    have H8 := Lib.hid h8
    clear h8
    go_wp2_with fail
    refine H8.out.mono ?_
    rintro e w8 ⟨v8, rfl, hown8, hb8⟩
    obtain ⟨A8, c8, rfl, -, -⟩ := own_slice hown8
    have hs8 := hb8.size
    have h9 := unpack_any C A7 c7 0 w8 w8.heap.size ((hr7.below hb8).more hs8) (Nat.le_refl _) (by omega) hm7 (by omega)
    unfold UAns at h9
    rw [hU2] at h9
    have H9 := Lib.hid h9
    clear h9
    simp only [castZ]
    go_wp2_with fail
    refine H9.out.mono ?_
    rintro e w9 ⟨v9, rfl, hown9, hb9⟩
    obtain ⟨A9, c9, rfl, -, -⟩ := own_slice hown9
    have hs9 := hb9.size
    have hb79 := hb8.trans (hb9.mono hs8)
    have hown79 := own_past hown7' hb79 (Nat.le_refl _)
    have hown89 := own_past hown8 hb9 (Nat.le_refl _)
    have ap78 := own_apart hown7' hown8 (Nat.le_refl _)
    have ap79 := own_apart hown7' hown9 (by omega)
    have ap89 := own_apart hown8 hown9 (Nat.le_refl _)
    have hb09 := hb07.trans (hb79.mono (by have := hb07.size; omega))
    clear H8 H9 hr7 hown7' hown8 hb8 hb9 hb79 hb07 hU2
    obtain ⟨R, hR⟩ : ∃ R, R = C.length + 1 := ⟨_, rfl⟩
    have hRI : (C.length : Int) + 1 = (R : Int) := by omega
    have hRl : (C ++ [9]).length = R := by simp; omega
    rw [← hR] at hown79 ap78 ap79
    generalize C ++ [9] = X at *
    have HRl := Lib.hid hRl
    simp only [castZ, ← hR]
    have hR2 : R ≤ 700000 := by omega
    clear hR hRl
    go_wp2_with fail
    go_loopw [12] (fun i wr => ∃ (k : Nat) (y : List UInt8), y.length = R ∧ k ≤ R ∧ i = .int .i64 k ∧ wr.ownsRow w5.heap.size 5 1 (.slice A7 R c7) R (y.map vb) ∧ w9.grownBy wr (Value.ownBlock (.slice A7 R c7))) (fun i _ => R - (intOf i).toNat)
    case atStart => exact ⟨0, X, HRl.out, Nat.zero_le _, rfl, hown79, World.grownBy.refl _ _⟩
    case round =>
      obtain ⟨k, y, hyl, hk, rfl, hown, hgr⟩ := hrel
      rcases Nat.lt_or_ge k R with hlt | hge
      · obtain ⟨g, rfl, _, _, hfz, hcell, hset⟩ := own_store hown (by omega)
        have h1 := hcell k hlt
        have hkx : k < y.length := by omega
        rw [List.getElem?_map, List.getElem?_eq_getElem hkx, Option.map_some] at h1
        have h2 := hfz k
        have h3 := hset k (.int .u8 238)
        have hv : Value.int .u8 238 = vb 238 := rfl
        rw [hv, ← List.map_set] at h3
        have H3 := Lib.hid h3
        have HYL : Hid ((y.set k 238).length = R) := Lib.hid (by simpa using hyl)
        generalize y.set k 238 = y' at H3 HYL
        generalize y[k] = x at h1
        unfold vb at h1
        clear hcell hfz hset h3 hv hyl hkx
        go_wp2_with fail
        go_roundw
        case rel => exact ⟨k + 1, y', HYL.out, by omega, by go_num, H3.out.1, hgr.trans H3.out.2⟩
        case measure => simp [intOf]; omega
      · obtain rfl : R = k := by omega
        have m1 := hown89.kept hgr ap78.1
        have n1 := hown9.kept hgr ap79.1
        have lt7 := hown79.lt
        have hb0a := hb09.grown hgr (by have := hb09.size; omega) (fun g hg => by have := lt7 g hg; have := hb09.size; omega)
        have hsa := hgr.size
        generalize wr = wa at *
        clear hgr hown hown89 hown9 hb09 hown79
        go_wp2_with fail
        go_loopw [13] (fun i wr => ∃ (k : Nat) (y : List UInt64), y.length = l.length ∧ k ≤ l.length ∧ i = .int .i64 k ∧ wr.ownsRow w7.heap.size 33 1 (.slice A8 l.length c8) l.length (y.map vq) ∧ wa.grownBy wr (Value.ownBlock (.slice A8 l.length c8))) (fun i _ => l.length - (intOf i).toNat)
        case atStart => exact ⟨0, l, rfl, Nat.zero_le _, rfl, m1, World.grownBy.refl _ _⟩
        case round =>
          obtain ⟨k, y, hyl, hk, rfl, hown, hgr⟩ := hrel
          rcases Nat.lt_or_ge k l.length with hlt | hge
          · obtain ⟨g, rfl, _, _, hfz, hcell, hset⟩ := own_store hown (by omega)
            have h1 := hcell k hlt
            have hkx : k < y.length := by omega
            rw [List.getElem?_map, List.getElem?_eq_getElem hkx, Option.map_some] at h1
            have h2 := hfz k
            have h3 := hset k (.int .u64 5)
            have hv : Value.int .u64 5 = vq 5 := rfl
            rw [hv, ← List.map_set] at h3
            have H3 := Lib.hid h3
            have HYL : Hid ((y.set k 5).length = l.length) := Lib.hid (by simpa using hyl)
            generalize y.set k 5 = y' at H3 HYL
            generalize y[k] = x at h1
            unfold vq at h1
            clear hcell hfz hset h3 hv hyl hkx
            go_wp2_with fail
            go_roundw
            case rel => exact ⟨k + 1, y', HYL.out, by omega, by go_num, H3.out.1, hgr.trans H3.out.2⟩
            case measure => simp [intOf]; omega
          · obtain ⟨q, hqk⟩ : ∃ q, q = k := ⟨_, rfl⟩
            obtain rfl : k = l.length := by omega
            have n2 := n1.kept hgr ap89.1
            have lt8 := m1.lt
            have hb0b := hb0a.grown hgr (by have := hb0a.size; omega) (fun g hg => by have := lt8 g hg; have := hb0a.size; omega)
            have hsb := hgr.size
            clear hgr m1 n1 hb0a hyl hqk
            go_wp2_with (at_builtin; go_must (refine app rowNum rfl _ _ rfl w7.heap.size _ _ _ rfl (by exact hown.alloc _) (wr.heap.size + 1) _ _ _ (([1, 2] : List UInt64).map vq) rfl rfl (by exact readsAt rfl) (oneCell_vq _) (by omega) (by simp; omega) ?_))
            intro vc wc hownc hgc
            have hgrc := hgc.of_alloc.by_
            have n3 := n2.kept hgrc ap89.1
            have ltb := hown.lt
            have hb0c := hb0b.grown hgrc (by have := hb0b.size; omega) (fun g hg => by have := ltb g hg; have := hb0b.size; omega)
            obtain ⟨Ac, cc, rfl, -, -⟩ := own_slice hownc
            have hf := same_yes l A9 A c9 c wc wc.heap.size (Reads.of_own n3) ((HQ.out.below hb0c).more (by have := hb0c.size; omega)) (by omega)
            have HF := Lib.hid hf
            have HB := Lib.hid hb0c
            have wX : IntKind.i64.wrap ((l.length : Int) + 2) = (l.length : Int) + 2 := IntWalk.i64_in _ (by omega)
            have hle : ((l.length : Int) + 2 == (l.length : Int) + 2) = true := by simp
            clear hgc hgrc n2 hb0b n3 hb0c hf hownc hown ltb
            go_wp2_with fail
            refine HF.out.mono ?_
            rintro e wd ⟨rfl, nn, rfl⟩
            go_wp2_with fail
            go_ret
            exact ⟨rfl, below_drewN HB.out⟩
  · have hne : ((e1 : Int) != 0) = true := by simp only [bne_iff_ne, ne_eq]; omega
    obtain rfl := pack_err hp he
    have hsm := fun (nn : Nat) => same_yes l (some ⟨g3, 0, none⟩) A c3 c (w4.drewN nn) w4.heap.size (hr34.drewN nn) (hq4.drewN nn) (by omega)
    have HSM := Lib.hid hsm
    have HB := Lib.hid hb04
    clear hsm hr34 hq4 hq hown4 hb04 hp
    simp only [List.length_nil] at *
    try simp only [castZ]
    go_wp2_with fail
    refine (HSM.out 0).mono ?_
    rintro e w5 ⟨rfl, nn, rfl⟩
    have h77' : (w4.drewN nn).cell? ⟨g3, l.length, none⟩ = some (.int .u64 77) := h77
    clear h77
    go_wp2_with fail
    refine (HSM.out _).mono ?_
    rintro e w6 ⟨rfl, n2, rfl⟩
    have h78 : (w4.drewN (nn + n2)).cell? ⟨g3, l.length, none⟩ = some (.int .u64 77) := h77'
    go_wp2_with fail
    go_ret
    exact ⟨rfl, below_drewN HB.out⟩
end Go.Proofs.Ytdjmjmbfaokdaaa
