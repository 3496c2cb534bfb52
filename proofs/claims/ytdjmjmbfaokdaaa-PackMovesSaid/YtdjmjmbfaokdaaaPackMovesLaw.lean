/- PackMoves: the walk of the law. -/
import Derived.Test.YtdjmjmbfaokdaaaPackMovesM
namespace Go.Proofs.Ytdjmjmbfaokdaaa
set_option linter.unusedVariables false
open Go.RowKit
open Varm Pk

theorem moved_take (l : List UInt64) (b : UInt64) (k : Nat) (hk : k < l.length) : (moved l b).take (k + 1) = (moved l b).take k ++ [l[k] + b] := by
  have h : k < (moved l b).length := by rw [moved_len]; exact hk
  rw [List.take_add_one, List.getElem?_eq_getElem h]
  simp [moved]

set_option maxHeartbeats 4000000 in
set_option maxRecDepth 100000 in
theorem packMoves_any (l : List UInt64) (A : Option Addr) (c : Nat) (y : Int) (hy : 0 ≤ y ∧ y ≤ 18446744073709551615) (w : World) (hq : Reads w w.heap.size A (l.map vq)) (hc : l.length ≤ c) (hl : l.length ≤ 140737488351232) :
    Calls Try.prog 13 #[.slice A l.length c, .int .u64 y] w fun e w' => e = .returned (.bool true) ∧ Below w.heap.size w w' := by
  obtain ⟨b, rfl⟩ : ∃ b : UInt64, y = (b.toNat : Int) := ⟨UInt64.ofNat y.toNat, by simp; omega⟩
  go_enter Try.func13, Try.ntmps13
  go_wp2_with fail
  refine (awake3_any w).mono ?_
  rintro e w0 ⟨rfl, hb0⟩
  have hs0 := hb0.size
  go_wp2_with fail
  refine (pack_any l A c w0 w0.heap.size ((hq.below hb0).more hs0) (Nat.le_refl _) hc (by omega)).mono ?_
  rintro e w1 ⟨v1, rfl, hown1, hb1⟩
  have hb01 := hb0.trans (hb1.mono hs0)
  have hs1 := hb01.size
  obtain ⟨A1, c1, rfl, -⟩ := own_slice hown1
  obtain ⟨C, e1, hp⟩ : ∃ C e1, pack l = (C, e1) := ⟨_, _, rfl⟩
  rw [hp] at hown1 ⊢
  simp only at hown1 ⊢
  have hq1 := (hq.below hb01).more hs1
  clear hb0 hb1 hown1
  rcases Nat.eq_zero_or_pos e1 with he | he
  · subst he
    simp only [castZ]
    rcases Nat.lt_or_ge l.length 2 with h2 | h2
    · go_wp2_with fail
      go_ret
      exact ⟨rfl, hb01⟩
    · obtain ⟨k1, hk1⟩ : ∃ k1, k1 = l.length - 1 := ⟨_, rfl⟩
      have hk1I : (l.length : Int) - 1 = (k1 : Int) := by omega
      have hk1l : k1 < l.length := by omega
      obtain ⟨g, off, rfl, hgw, hcell⟩ := hq1.at_ (k := 0) (by simp; omega)
      have hx := Reads.at_num hcell hk1l
      have HC := Lib.hid hcell
      have HP := Lib.hid hp
      have HK := Lib.hid hk1
      clear hcell hp hk1
      have hxl := nth_lt l k1
      obtain ⟨x, hxx⟩ : ∃ x, x = nth l k1 := ⟨_, rfl⟩
      rw [← hxx] at hx hxl
      have HX := Lib.hid hxx
      clear hxx
      rcases Nat.lt_or_ge 9223372036854775808 x with hx1 | hx1
      · go_wp2_with fail
        go_ret
        exact ⟨rfl, hb01⟩
      · have hbl := UInt64.toNat_lt b
        rcases Nat.lt_or_ge 9223372036854775807 b.toNat with hb1 | hb1
        · go_wp2_with fail
          go_ret
          exact ⟨rfl, hb01⟩
        · have hm := moves_ok HP.out h2 b (by rw [← HK.out, ← HX.out]; exact hx1) hb1
          have HM := Lib.hid hm
          clear hm
          have hl65 := (pack_ok HP.out).1
          have HQ := Lib.hid hq
          clear hq1 hq hgw HC
          go_wp2_with fail
          clear hx
          go_loopw [7, 8] (fun vm i wr => ∃ k : Nat, k ≤ l.length ∧ i = .int .i64 k ∧ wr.ownsRow w1.heap.size 33 1 vm k (((moved l b).take k).map vq) ∧ Below w1.heap.size w1 wr) (fun _ i _ => l.length - (intOf i).toNat)
          case atStart => exact ⟨0, Nat.zero_le _, rfl, World.ownsRow_nil _ _ _ _, Below.refl _ _⟩
          case round =>
            obtain ⟨k, hk, rfl, hown, hbr⟩ := hrel
            have hsr := hbr.size
            rcases Nat.lt_or_ge k l.length with hlt | hge
            · obtain ⟨g', off', e', hgw', hcell'⟩ := ((HQ.out.below hb01).below (hbr.mono hs1)).at_ (k := k) (by simpa using hlt)
              injection e' with e'
              injection e' with e1 e2 e3
              subst e1; subst e2
              have hx := Reads.num hcell' hlt
              have HT := Lib.hid (moved_take l b k hlt)
              have hxl2 := UInt64.toNat_lt l[k]
              have hwr : vq (l[k] + b) = .int .u64 (IntKind.u64.wrap ((l[k].toNat : Int) + (b.toNat : Int))) := by
                simp only [vq, UInt64.toNat_add, IntKind.wrap]
                simp [IntKind.signed, IntKind.bits]
              have HW := Lib.hid hwr
              clear hcell' hwr
              generalize l[k] = z at *
              obtain ⟨Al, cl, rfl, -⟩ := own_slice hown
              go_wp2_with (at_builtin; go_must (refine app1k rowNum rfl _ _ rfl _ w1.heap.size _ _ _ rfl (by exact hown) _ rfl rfl rfl (by omega) (by omega) ?_))
              intro v5 w5 hown5 hg5
              have hb5 := hg5.below hbr hown (by omega)
              have hown5' : w5.ownsRow w1.heap.size 33 1 v5 (k + 1) (((moved l b).take (k + 1)).map vq) := by
                rw [HT.out, List.map_append, List.map_cons, List.map_nil, HW.out, List.map_take]; exact hown5
              clear hown hbr hg5 hown5
              go_wp2_with fail
              go_roundw
              case rel => exact ⟨k + 1, by omega, by go_num, hown5', hb5⟩
              case measure => simp [intOf]; omega
            · obtain ⟨q, hqq⟩ : ∃ q, q = k := ⟨_, rfl⟩
              obtain rfl : k = l.length := by omega
              have ml := moved_len l b
              rw [List.take_of_length_le (by omega)] at hown
              obtain ⟨Am, cm, rfl, hcm, -⟩ := own_slice hown
              have ML := Lib.hid ml
              have x1 := pack_any (moved l b) Am cm wr wr.heap.size (Reads.of_own hown) (Nat.le_refl _) (by omega) (by omega)
              rw [ml] at x1
              unfold BAns at x1
              have X1 := Lib.hid x1
              have hb0r := hb01.trans (hbr.mono hs1)
              have HOWN := Lib.hid hown
              clear x1 ml hbr hqq hown
              go_wp2_with fail
              refine X1.out.mono ?_
              rintro e w2 ⟨v2, rfl, hown2, hb2⟩
              obtain ⟨A2, c2, rfl, -⟩ := own_slice hown2
              have hs2 := hb2.size
              have hb02 := hb0r.trans (hb2.mono (by have := hb0r.size; omega))
              have x2 := pack_any (l.take 1) (some ⟨g, off, none⟩) c w2 w2.heap.size (by rw [List.map_take]; exact ((HQ.out.below hb02).more (by have := hb02.size; omega)).take 1) (Nat.le_refl _) (by rw [List.length_take]; omega) (by rw [List.length_take]; omega)
              rw [show (l.take 1).length = 1 by rw [List.length_take]; omega] at x2
              unfold BAns at x2
              have X2 := Lib.hid x2
              have HM2 := own_past HOWN.out hb2 (Nat.le_refl _)
              clear x2 hb0r hown2 hb2 X1 HOWN
              go_wp2_with fail
              refine X2.out.mono ?_
              rintro e w3 ⟨v3, rfl, hown3, hb3⟩
              obtain ⟨A3, c3, rfl, -⟩ := own_slice hown3
              have hs3 := hb3.size
              have hb03 := hb02.trans (hb3.mono (by have := hb02.size; omega))
              have x3 := pack_any ((moved l b).take 1) Am cm w3 w3.heap.size (by rw [List.map_take]; exact (Reads.of_own (own_past HM2 hb3 (Nat.le_refl _))).take 1) (Nat.le_refl _) (by rw [List.length_take]; omega) (by rw [List.length_take]; omega)
              rw [show ((moved l b).take 1).length = 1 by rw [List.length_take, ML.out]; omega] at x3
              unfold BAns at x3
              have X3 := Lib.hid x3
              clear x3 hb02 hown3 hb3 X2 HM2
              go_wp2_with fail
              refine X3.out.mono ?_
              rintro e w4 ⟨v4, rfl, hown4, hb4⟩
              obtain ⟨A4, c4, rfl, -⟩ := own_slice hown4
              have hs4 := hb4.size
              have hb04 := hb03.trans (hb4.mono (by have := hb03.size; omega))
              obtain ⟨h, hh⟩ : ∃ h, h = l.length / 2 := ⟨_, rfl⟩
              have x4 := pack_any (l.take (l.length / 2)) (some ⟨g, off, none⟩) c w4 w4.heap.size (by rw [List.map_take]; exact ((HQ.out.below hb04).more (by have := hb04.size; omega)).take _) (Nat.le_refl _) (by rw [List.length_take]; omega) (by rw [List.length_take]; omega)
              rw [show (l.take (l.length / 2)).length = h by rw [List.length_take]; omega] at x4
              unfold BAns at x4
              have X4 := Lib.hid x4
              have hhI : (l.length : Int) / 2 = (h : Int) := by omega
              have hhl : h ≤ l.length := by omega
              clear x4 hb03 hown4 hb4 X3 hh
              go_wp2_with fail
              refine X4.out.mono ?_
              rintro e w5 ⟨v5, rfl, hown5, hb5⟩
              obtain ⟨A5, c5, rfl, -⟩ := own_slice hown5
              have hs5 := hb5.size
              have HB := Lib.hid (hb04.trans (hb5.mono (by have := hb04.size; omega)))
              clear hb04 hown5 hb5 X4
              obtain ⟨m1, m2, m3, m4, m5, m6⟩ := HM.out
              rw [m1, m2]
              generalize (pack (moved l b)).1.length = L1 at *
              generalize (pack (l.take 1)).1.length = L2 at *
              generalize (pack ((moved l b).take 1)).1.length = L3 at *
              generalize (pack (l.take (l.length / 2))).1.length = L4 at *
              have hCl := pack_len HP.out
              have t1 : ((L1 : Int) - (L3 : Int) == (C.length : Int) - (L2 : Int)) = true := by simp only [beq_iff_eq]; omega
              have w1 : IntKind.i64.wrap ((L1 : Int) - (L3 : Int)) = (L1 : Int) - (L3 : Int) := IntWalk.i64_in _ (by omega)
              have w2 : IntKind.i64.wrap ((C.length : Int) - (L2 : Int)) = (C.length : Int) - (L2 : Int) := IntWalk.i64_in _ (by omega)
              clear m1 m2 m3 HM
              simp only [castZ]
              go_wp2_with fail
              go_ret
              exact ⟨rfl, HB.out⟩
  · have hne : ((e1 : Int) != 0) = true := by simp only [bne_iff_ne, ne_eq]; omega
    go_wp2_with fail
    go_ret
    exact ⟨rfl, hb01⟩
end Go.Proofs.Ytdjmjmbfaokdaaa
