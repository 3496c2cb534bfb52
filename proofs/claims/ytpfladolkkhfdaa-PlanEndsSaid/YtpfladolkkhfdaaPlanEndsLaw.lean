/- PlanEnds: the walk of the law. -/
import Derived.Test.YtpfladolkkhfdaaEndsM
import Derived.Test.YtpfladolkkhfdaaAwake16
import Derived.Test.YtpfladolkkhfdaaOpenPl
namespace Go.Proofs.Ytpfladolkkhfdaa
set_option linter.unusedVariables false
open Go.RowKit

/-- The first k segments of the law's. -/
def mkE (l : List UInt16) : Nat → List Sg
  | 0 => []
  | k + 1 => mkE l k ++ (match l[k]? with | some x => [⟨Int64.ofInt (k + 1), Int64.ofInt ((x.toNat : Int) + 1), 0, 0⟩] | none => [])
theorem mkE_succ {l : List UInt16} {k : Nat} (h : k < l.length) : mkE l (k + 1) = mkE l k ++ [⟨Int64.ofInt (k + 1), Int64.ofInt ((l[k].toNat : Int) + 1), 0, 0⟩] := by simp [mkE, h]
theorem u16_cnt (x : Nat) (h : x ≤ 65535) : (Int64.ofInt ((x : Int) + 1)).toInt = (x : Int) + 1 := Int64.toInt_ofInt_of_le (by omega) (by omega)
theorem mkE_len (l : List UInt16) : ∀ k, k ≤ l.length → (mkE l k).length = k
  | 0, _ => rfl
  | k + 1, h => by rw [mkE_succ (by omega), List.length_append, mkE_len l k (by omega)]; rfl
theorem mkE_good (l : List UInt16) : ∀ k, k ≤ l.length → Good (mkE l k)
  | 0, _ => by intro s hs; simp [mkE] at hs
  | k + 1, h => by
    rw [mkE_succ (by omega)]
    intro s hs
    rcases List.mem_append.1 hs with h1 | h1
    · exact mkE_good l k (by omega) s h1
    · have : s = _ := List.mem_singleton.1 h1
      subst this
      have := u16_cnt (l[k].toNat) (by have := l[k].toNat_lt; omega)
      simp only [this]; omega

theorem Grew.below4 {w0 w w' : World} {v v' : Value} {B : Nat} {e : TypeId} {n : Nat} {xs : List Value} (h : Grew w v w' v') (hb : Below B w0 w) (hown : w.ownsRow B e 4 v n xs) (hB : B ≤ w.heap.size) : Below B w0 w' :=
  hb.grown h.by_ hB (fun k hk => (hown.lt k hk).1)
def segv (a b : Int) : List Value := [.int .i64 a, .int .i64 b, .int .i64 0, .int .i64 0]
theorem segCells_app (l : List Sg) (a b : Int) (ha : -9223372036854775808 ≤ a ∧ a ≤ 9223372036854775807) (hb : -9223372036854775808 ≤ b ∧ b ≤ 9223372036854775807) : segCells (l ++ [⟨Int64.ofInt a, Int64.ofInt b, 0, 0⟩]) = segCells l ++ [.int .i64 a, .int .i64 b, .int .i64 0, .int .i64 0] := by
  rw [segCells_append]
  simp only [segCells, List.flatMap_cons, List.flatMap_nil, List.append_nil, Sg.cells, vi, Int64.toInt_ofInt_of_le ha.1 (show a < 2 ^ 63 by omega), Int64.toInt_ofInt_of_le hb.1 (show b < 2 ^ 63 by omega)]
  rfl

theorem cn_of (n : Nat) (i : Int64) (h : n ≤ 65536) : (Sg.mk i (Int64.ofInt n) 0 0).cnt.toInt = n := Int64.toInt_ofInt_of_le (by omega) (by omega)
theorem tot_app (R : List Sg) (i : Int) (n : Nat) (h1 : 1 ≤ n) (h : n ≤ 65536) : tot (R ++ [⟨Int64.ofInt i, Int64.ofInt n, 0, 0⟩]) = tot R + n := by
  rw [tot_append, tot_one, cn, cn_of n _ h]; omega
theorem good_app {R : List Sg} (hg : Good R) (i : Int) (n : Nat) (h1 : 1 ≤ n) (h : n ≤ 65536) : Good (R ++ [⟨Int64.ofInt i, Int64.ofInt n, 0, 0⟩]) := by
  intro s hs
  rcases List.mem_append.1 hs with h2 | h2
  · exact hg s h2
  · have : s = _ := List.mem_singleton.1 h2
    subst this
    rw [cn_of n _ h]; omega

set_option maxHeartbeats 8000000 in
set_option maxRecDepth 100000 in
theorem planEnds_any (ns ls : List UInt16) (A A' : Option Addr) (c c' : Nat) (w : World) (hr : Reads w w.heap.size A (ns.map v16)) (hr' : Reads w w.heap.size A' (ls.map v16)) (hl : ns.length ≤ 9223372036854775807) (hl' : ls.length ≤ 9223372036854775807) :
    Calls Try.prog 8 #[.slice A ns.length c, .slice A' ls.length c'] w fun e w' => e = .returned (.bool true) ∧ Below w.heap.size w w' := by
  go_enter Try.func8, Try.ntmps8
  go_wp2_with fail
  refine (awake16_any _).mono ?_
  rintro e w1 ⟨rfl, hb1⟩
  have hs1 := hb1.size
  go_wp2_with fail
  go_loopw [5, 6, 7] (fun v s i wr => ∃ k : Nat, k ≤ ns.length ∧ k ≤ 300 ∧ i = .int .i64 k ∧ (∃ T : Nat, s = .int .i64 T ∧ T ≤ 65536 * k ∧ Hid (T = tot (mkE ns k))) ∧ wr.ownsRow w.heap.size 44 4 v k (segCells (mkE ns k)) ∧ Below w.heap.size w wr) (fun _ _ i _ => 300 - (intOf i).toNat)
  case atStart => exact ⟨0, Nat.zero_le _, by omega, rfl, ⟨0, rfl, by omega, Lib.hid (by simp [mkE, tot])⟩, World.ownsRow_nil _ _ _ _, hb1⟩
  case round =>
    obtain ⟨k, hk, hk3, rfl, ⟨T, rfl, hT, HT⟩, hown, hbr⟩ := hrel
    have hsr := hbr.size
    by_cases hgo : k < ns.length ∧ k < 300
    · obtain ⟨hlt, hlt3⟩ := hgo
      obtain ⟨b, off, hA, hblt, hc⟩ := hr.at_ (k := k) (by simpa using hlt)
      cases hA
      have d0 : w.cell? ⟨b, off + k, none⟩ = some (v16 ns[k]) := hc k _ (by simp [hlt])
      have hx16 : ns[k].toNat ≤ 65535 := by have := ns[k].toNat_lt; omega
      have HC := Lib.hid (mkE_succ hlt)
      have HR := Lib.hid hr
      clear hc hr
      simp only [v16] at d0
      generalize ns[k].toNat = x at d0 hx16 HC
      have d1 := (hbr.cell hblt).trans d0
      have D0 := Lib.hid d0
      clear d0
      go_wp2_with (at_builtin; go_must (refine appSeg rfl (.tmp 26) (.tmp 36) rfl (.int .i64 (k + 1)) (.int .i64 (x + 1)) (.int .i64 0) (.int .i64 0) (by simp [Value.oneCell']) _ rfl w.heap.size _ _ _ rfl (by exact hown) _ rfl rfl (by omega) hsr ?_))
      intro v2 w2 hown2 hg2
      have hb2 := hg2.below4 hbr hown hsr
      have d2 := (hb2.cell hblt).trans D0.out
      have HT2 : Hid (T + (x + 1) = tot (mkE ns (k + 1))) := Lib.hid (by rw [HC.out, tot_append, tot_one, HT.out, cn, u16_cnt x hx16]; omega)
      clear hg2 hown hbr d1 hblt
      go_wp2_with fail
      go_roundw
      case rel => exact ⟨k + 1, by omega, by omega, by go_num, ⟨T + (x + 1), by go_num, by omega, HT2⟩, by rw [HC.out, segCells_app _ _ _ (by omega) (by omega)]; exact hown2, hb2⟩
      case measure => simp [intOf]; omega
    · have hE : k = ns.length ∨ (k < ns.length ∧ k = 300) := by omega
      have hkl := mkE_len ns k hk
      have hgd := mkE_good ns k hk
      generalize mkE ns k = L at HT hown hkl hgd
      clear hgo
      obtain ⟨A1, c1, rfl, -⟩ := own_slice hown
      rcases hE with rfl | ⟨hE1, rfl⟩
      · by_cases hbig : 65536 < T
        · go_wp2_with fail
          go_ret
          exact ⟨rfl, hbr⟩
        · go_wp2_with fail
          go_loopw [5, 6, 8] (fun v s i wr => ∃ (j : Nat) (L : List Sg), i = .int .i64 j ∧ (∃ T : Nat, s = .int .i64 T ∧ T ≤ 65536 ∧ Hid (T = tot L)) ∧ L.length + 3 * j ≤ 300 ∧ Hid (Good L) ∧ wr.ownsRow w.heap.size 44 4 v L.length (segCells L) ∧ Below w.heap.size w wr) (fun _ _ i _ => 300 - (intOf i).toNat)
          case atStart => exact ⟨0, L, rfl, ⟨T, rfl, by omega, HT⟩, by omega, Lib.hid hgd, by rw [hkl]; exact hown, hbr⟩
          case round =>
            clear HT hown hkl hgd hbr hsr hbig hT
            obtain ⟨j, L, rfl, ⟨T, rfl, hT, HT⟩, hLj, HG, hown, hbr⟩ := hrel
            have hsr := hbr.size
            obtain ⟨A1, c1, rfl, -⟩ := own_slice hown
            have hRL := Reads.of_own4 hown
            go_wp2_with fail
            refine (planMerge_any L A1 c1 wr hRL (by omega)).mono ?_
            rintro e W1 ⟨v, rfl, hownm, hbm⟩
            have hsm := hbm.size
            obtain ⟨A2, c2, rfl, -⟩ := own_slice hownm
            by_cases hm : merge L = []
            · have HE := ends HG.out (by rw [← HT.out]; exact hT) hm
              rw [← HT.out] at HE
              have HE2 := Lib.hid HE
              rw [hm]
              clear hm HE hownm hown hRL
              go_wp2_with fail
              refine (bound_any T _ (by omega) (by omega)).mono ?_
              rintro e w5 ⟨rfl, rfl⟩
              have hb : decide ((L.length : Int) ≤ bound T) = true := decide_eq_true HE2.out
              go_wp2_with fail
              go_ret
              exact ⟨rfl, hbr.trans (hbm.mono hsr)⟩
            · obtain ⟨i0, i1, i2, i3, hme, h01, h12, h23, h3l⟩ := merge_four hm
              rw [hme] at hownm ⊢
              have hRm := Reads.of_own hownm
              obtain ⟨b2, off2, rfl, hb2lt, hcm⟩ := hRm.at_ (k := 0) (by simp)
              have m0 : W1.cell? ⟨b2, off2, none⟩ = some (.int .i64 i0) := hcm 0 _ rfl
              have m1 : W1.cell? ⟨b2, off2 + 1, none⟩ = some (.int .i64 i1) := hcm 1 _ rfl
              have m2 : W1.cell? ⟨b2, off2 + 2, none⟩ = some (.int .i64 i2) := hcm 2 _ rfl
              have m3 : W1.cell? ⟨b2, off2 + 3, none⟩ = some (.int .i64 i3) := hcm 3 _ rfl
              have hRL1 := (hRL.below hbm).more hsm
              have hB1 := Lib.hid (hbr.trans (hbm.mono hsr))
              have hs1w := Nat.le_trans hsr hsm
              have M0 := Lib.hid m0
              have M1 := Lib.hid m1
              have M2 := Lib.hid m2
              have M3 := Lib.hid m3
              clear hm hme hRm hcm hownm hown hRL hbr hbm m0 m1 m2 m3
              have hl4 : ([i0, i1, i2, i3] : List Nat).length = 4 := rfl
              rw [hl4]
              clear hl4
              go_wp2_with fail
              go_loopw [10, 11, 12] (fun s v i wi => ∃ (k : Nat), k ≤ L.length ∧ i = .int .i64 k ∧ (∃ S : Nat, s = .int .i64 S ∧ S ≤ 65536 ∧ Hid (S = selTo L [i0, i1, i2, i3] k)) ∧ wi.ownsRow W1.heap.size 44 4 v (restTo L [i0, i1, i2, i3] k).length (segCells (restTo L [i0, i1, i2, i3] k)) ∧ Below W1.heap.size W1 wi) (fun _ _ i _ => L.length - (intOf i).toNat)
              case atStart => exact ⟨0, Nat.zero_le _, rfl, ⟨0, rfl, by omega, Lib.hid rfl⟩, World.ownsRow_nil _ _ _ _, Below.refl _ _⟩
              case round =>
                obtain ⟨k, hk, rfl, ⟨S, rfl, hS, HS⟩, hown, hbi⟩ := hrel
                have hsi := hbi.size
                have hrl := restTo_len L [i0, i1, i2, i3] k
                have m0 := (hbi.cell hb2lt).trans M0.out
                have m1 := (hbi.cell hb2lt).trans M1.out
                have m2 := (hbi.cell hb2lt).trans M2.out
                have m3 := (hbi.cell hb2lt).trans M3.out
                rcases Nat.lt_or_ge k L.length with hlt | hge
                · obtain ⟨bb, oo, hA, hbblt, c0, cc1, cc2, c3⟩ := seg_at (hRL1.below hbi) hlt
                  cases hA
                  have HGk : 1 ≤ L[k].cnt.toInt ∧ cn L[k] ≤ T := ⟨HG.out _ (List.getElem_mem hlt), by rw [HT.out]; exact cn_le_tot (List.getElem_mem hlt)⟩
                  by_cases hmem : k ∈ [i0, i1, i2, i3]
                  · obtain ⟨HR1, HR2⟩ := restTo_in hlt hmem
                    have hS2 : S + cn L[k] ≤ 65536 := by
                      have h := sel_rest L [i0, i1, i2, i3] (k + 1) (by omega)
                      have h2 : tot (L.take (k + 1)) ≤ tot L := by
                        conv => rhs; rw [← List.take_append_drop (k + 1) L, tot_append]
                        omega
                      rw [HR2, ← HS.out] at h
                      have := HT.out
                      omega
                    have HS2 : Hid (S + cn L[k] = selTo L [i0, i1, i2, i3] (k + 1)) := Lib.hid (by rw [HR2, HS.out])
                    have HR3 := Lib.hid HR1
                    rw [mem4] at hmem
                    have hcn : (cn L[k] : Int) = L[k].cnt.toInt := by unfold cn; omega
                    clear HR1 HR2 c0 cc2 c3
                    simp only [vi] at cc1
                    rw [← hcn] at cc1
                    generalize cn L[k] = x at cc1 HS2 hS2 HGk
                    clear hcn HGk
                    have hmem2 : k = i0 ∨ (k ≠ i0 ∧ k = i1) ∨ (k ≠ i0 ∧ k ≠ i1 ∧ k = i2) ∨ (k ≠ i0 ∧ k ≠ i1 ∧ k ≠ i2 ∧ k = i3) := by omega
                    clear hmem
                    rcases hmem2 with q0 | ⟨q0, q1⟩ | ⟨q0, q1, q2⟩ | ⟨q0, q1, q2, q3⟩
                    · have e0 : ((k : Int) == (i0 : Int)) = true := by simp; omega
                      clear q0
                      go_wp2_with fail
                      go_roundw
                      case rel => exact ⟨k + 1, by omega, by go_num, ⟨S + x, by go_num, hS2, HS2⟩, by rw [HR3.out]; exact hown, hbi⟩
                      case measure => simp [intOf]; omega
                    · have e0 : ((k : Int) == (i0 : Int)) = false := by simp; omega
                      have e1 : ((k : Int) == (i1 : Int)) = true := by simp; omega
                      clear q0 q1
                      go_wp2_with fail
                      go_roundw
                      case rel => exact ⟨k + 1, by omega, by go_num, ⟨S + x, by go_num, hS2, HS2⟩, by rw [HR3.out]; exact hown, hbi⟩
                      case measure => simp [intOf]; omega
                    · have e0 : ((k : Int) == (i0 : Int)) = false := by simp; omega
                      have e1 : ((k : Int) == (i1 : Int)) = false := by simp; omega
                      have e2 : ((k : Int) == (i2 : Int)) = true := by simp; omega
                      clear q0 q1 q2
                      go_wp2_with fail
                      go_roundw
                      case rel => exact ⟨k + 1, by omega, by go_num, ⟨S + x, by go_num, hS2, HS2⟩, by rw [HR3.out]; exact hown, hbi⟩
                      case measure => simp [intOf]; omega
                    · have e0 : ((k : Int) == (i0 : Int)) = false := by simp; omega
                      have e1 : ((k : Int) == (i1 : Int)) = false := by simp; omega
                      have e2 : ((k : Int) == (i2 : Int)) = false := by simp; omega
                      have e3 : ((k : Int) == (i3 : Int)) = true := by simp; omega
                      clear q0 q1 q2 q3
                      go_wp2_with fail
                      go_roundw
                      case rel => exact ⟨k + 1, by omega, by go_num, ⟨S + x, by go_num, hS2, HS2⟩, by rw [HR3.out]; exact hown, hbi⟩
                      case measure => simp [intOf]; omega
                  · obtain ⟨HR1, HR2⟩ := restTo_out hlt hmem
                    have HS2 : Hid (S = selTo L [i0, i1, i2, i3] (k + 1)) := Lib.hid (by rw [HR2, HS.out])
                    have HR3 : Hid (segCells (restTo L [i0, i1, i2, i3] (k + 1)) = segCells (restTo L [i0, i1, i2, i3] k) ++ L[k].cells) := Lib.hid (by rw [HR1, segCells_append]; simp [segCells])
                    have HR4 : Hid ((restTo L [i0, i1, i2, i3] (k + 1)).length = (restTo L [i0, i1, i2, i3] k).length + 1) := Lib.hid (by rw [HR1, List.length_append]; rfl)
                    rw [mem4] at hmem
                    have e0 : ((k : Int) == (i0 : Int)) = false := by simp; omega
                    have e1 : ((k : Int) == (i1 : Int)) = false := by simp; omega
                    have e2 : ((k : Int) == (i2 : Int)) = false := by simp; omega
                    have e3 : ((k : Int) == (i3 : Int)) = false := by simp; omega
                    clear hmem HR1 HR2 HGk
                    generalize L[k] = sg at c0 cc1 cc2 c3 HR3
                    obtain ⟨s0, s1, s2, s3⟩ := sg
                    simp only [vi, Sg.cells] at c0 cc1 cc2 c3 HR3
                    generalize s0.toInt = x0 at c0 HR3
                    generalize s1.toInt = x1 at cc1 HR3
                    generalize s2.toInt = x2 at cc2 HR3
                    generalize s3.toInt = x3 at c3 HR3
                    go_wp2_with (at_builtin; go_must (refine appSeg rfl (.tmp 101) (.tmp 106) rfl (.int .i64 x0) (.int .i64 x1) (.int .i64 x2) (.int .i64 x3) (by simp [Value.oneCell']) _ rfl W1.heap.size _ _ _ rfl (by exact hown) _ rfl rfl (by omega) hsi ?_))
                    intro v2 w2 hown2 hg2
                    have hb2 := hg2.below4 hbi hown hsi
                    clear hg2 hown hbi c0 cc1 cc2 c3 m0 m1 m2 m3
                    go_wp2_with fail
                    go_roundw
                    case rel => exact ⟨k + 1, by omega, by go_num, ⟨S, rfl, hS, HS2⟩, by rw [HR3.out, HR4.out]; exact hown2, hb2⟩
                    case measure => simp [intOf]; omega
                · obtain rfl : k = L.length := by omega
                  have hcount := rest_count L h01 h12 h23 L.length (Nat.le_refl _)
                  have hS1 : 1 ≤ S := by rw [HS.out]; exact selTo_pos HG.out (i := i0) (by simp) (by omega) L.length (by omega)
                  have hrl4 : (restTo L [i0, i1, i2, i3] L.length).length + 4 = L.length := by omega
                  have hsum : S + tot (restTo L [i0, i1, i2, i3] L.length) = T := by rw [HS.out, HT.out, sel_rest _ _ _ (Nat.le_refl _), List.take_length]
                  have hgR := Lib.hid (restTo_good HG.out [i0, i1, i2, i3] L.length)
                  clear hcount HS HT hrl
                  generalize restTo L [i0, i1, i2, i3] L.length = R at hown hrl4 hsum hgR ⊢
                  obtain ⟨A5, c5, rfl, -⟩ := own_slice hown
                  have q1 : ((R.length : Int) != (L.length : Int) - 4) = false := by simp; omega
                  have HB5 := Lib.hid (hB1.out.trans (hbi.mono hs1w))
                  generalize htr : tot R = TR at hsum
                  have HTR := Lib.hid htr
                  clear htr m0 m1 m2 m3 HG
                  by_cases hlv : j < ls.length
                  · obtain ⟨bb, oo, hA, hbblt, hc⟩ := hr'.at_ (k := j) (by simpa using hlv)
                    cases hA
                    have d : w.cell? ⟨bb, oo + j, none⟩ = some (v16 ls[j]) := hc j _ (by simp [hlv])
                    have d1 := (HB5.out.cell hbblt).trans d
                    have hx16 : ls[j].toNat ≤ 65535 := by have := ls[j].toNat_lt; omega
                    clear d hc hr' hbblt
                    simp only [v16] at d1
                    generalize ls[j].toNat = x at d1 hx16
                    have hmod : x % S < S := Nat.mod_lt _ (by omega)
                    have HRL := Lib.hid hrl4
                    have hn : ((x % S + 1 : Nat) : Int) = (x : Int) % (S : Int) + 1 := by simp
                    have HNN := Lib.hid hn
                    obtain ⟨n, hn'⟩ : ∃ n, x % S + 1 = n := ⟨_, rfl⟩
                    have hn1 : 1 ≤ n ∧ n ≤ S := by omega
                    have HN1 := Lib.hid hn'
                    clear hn hn'
                    go_wp2_with (at_builtin; go_must (refine appSeg rfl (.tmp 132) (.tmp 137) rfl (.int .i64 (1000 + j)) (.int .i64 ((x : Int) % (S : Int) + 1)) (.int .i64 0) (.int .i64 0) (by simp [Value.oneCell']) _ rfl W1.heap.size _ _ _ rfl (by exact hown) _ rfl rfl (by omega) hsi ?_))
                    intro v2 w2 hown2 hg2
                    have hb2 := hg2.below4 hbi hown hsi
                    have hE : (x : Int) % (S : Int) + 1 = (n : Int) := by rw [← HNN.out, HN1.out]
                    rw [hE] at hown2 ⊢
                    clear hg2 hown hbi hE HNN HN1 d1 hx16 hmod
                    have HN := Lib.hid (tot_app R (1000 + j) n hn1.1 (by omega))
                    have HG2 := Lib.hid (good_app hgR.out (1000 + j) n hn1.1 (by omega))
                    go_wp2_with fail
                    go_roundw
                    case rel => exact ⟨j + 1, R ++ [⟨Int64.ofInt (1000 + j), Int64.ofInt n, 0, 0⟩], by go_num, ⟨TR + n, by go_num, by omega, Lib.hid (by rw [HN.out, HTR.out])⟩, by have := HRL.out; simp; omega, HG2, by rw [segCells_app _ _ _ (by omega) (by omega), List.length_append]; exact own_base hown2 hs1w, hB1.out.trans (hb2.mono hs1w)⟩
                    case measure => simp [intOf]; omega
                  · go_wp2_with (at_builtin; go_must (refine appSeg rfl (.tmp 132) (.tmp 137) rfl (.int .i64 (1000 + j)) (.int .i64 S) (.int .i64 0) (.int .i64 0) (by simp [Value.oneCell']) _ rfl W1.heap.size _ _ _ rfl (by exact hown) _ rfl rfl (by omega) hsi ?_))
                    intro v2 w2 hown2 hg2
                    have hb2 := hg2.below4 hbi hown hsi
                    clear hg2 hown hbi
                    have HN := Lib.hid (tot_app R (1000 + j) S hS1 hS)
                    have HG2 := Lib.hid (good_app hgR.out (1000 + j) S hS1 hS)
                    go_wp2_with fail
                    go_roundw
                    case rel => exact ⟨j + 1, R ++ [⟨Int64.ofInt (1000 + j), Int64.ofInt S, 0, 0⟩], by go_num, ⟨TR + S, by go_num, by omega, Lib.hid (by rw [HN.out, HTR.out])⟩, by simp; omega, HG2, by rw [segCells_app _ _ _ (by omega) (by omega), List.length_append]; exact own_base hown2 hs1w, hB1.out.trans (hb2.mono hs1w)⟩
                    case measure => simp [intOf]; omega
      · by_cases hbig : 65536 < T
        · go_wp2_with fail
          go_ret
          exact ⟨rfl, hbr⟩
        · go_wp2_with fail
          go_loopw [5, 6, 8] (fun v s i wr => ∃ (j : Nat) (L : List Sg), i = .int .i64 j ∧ (∃ T : Nat, s = .int .i64 T ∧ T ≤ 65536 ∧ Hid (T = tot L)) ∧ L.length + 3 * j ≤ 300 ∧ Hid (Good L) ∧ wr.ownsRow w.heap.size 44 4 v L.length (segCells L) ∧ Below w.heap.size w wr) (fun _ _ i _ => 300 - (intOf i).toNat)
          case atStart => exact ⟨0, L, rfl, ⟨T, rfl, by omega, HT⟩, by omega, Lib.hid hgd, by rw [hkl]; exact hown, hbr⟩
          case round =>
            clear HT hown hkl hgd hbr hsr hbig hT
            obtain ⟨j, L, rfl, ⟨T, rfl, hT, HT⟩, hLj, HG, hown, hbr⟩ := hrel
            have hsr := hbr.size
            obtain ⟨A1, c1, rfl, -⟩ := own_slice hown
            have hRL := Reads.of_own4 hown
            go_wp2_with fail
            refine (planMerge_any L A1 c1 wr hRL (by omega)).mono ?_
            rintro e W1 ⟨v, rfl, hownm, hbm⟩
            have hsm := hbm.size
            obtain ⟨A2, c2, rfl, -⟩ := own_slice hownm
            by_cases hm : merge L = []
            · have HE := ends HG.out (by rw [← HT.out]; exact hT) hm
              rw [← HT.out] at HE
              have HE2 := Lib.hid HE
              rw [hm]
              clear hm HE hownm hown hRL
              go_wp2_with fail
              refine (bound_any T _ (by omega) (by omega)).mono ?_
              rintro e w5 ⟨rfl, rfl⟩
              have hb : decide ((L.length : Int) ≤ bound T) = true := decide_eq_true HE2.out
              go_wp2_with fail
              go_ret
              exact ⟨rfl, hbr.trans (hbm.mono hsr)⟩
            · obtain ⟨i0, i1, i2, i3, hme, h01, h12, h23, h3l⟩ := merge_four hm
              rw [hme] at hownm ⊢
              have hRm := Reads.of_own hownm
              obtain ⟨b2, off2, rfl, hb2lt, hcm⟩ := hRm.at_ (k := 0) (by simp)
              have m0 : W1.cell? ⟨b2, off2, none⟩ = some (.int .i64 i0) := hcm 0 _ rfl
              have m1 : W1.cell? ⟨b2, off2 + 1, none⟩ = some (.int .i64 i1) := hcm 1 _ rfl
              have m2 : W1.cell? ⟨b2, off2 + 2, none⟩ = some (.int .i64 i2) := hcm 2 _ rfl
              have m3 : W1.cell? ⟨b2, off2 + 3, none⟩ = some (.int .i64 i3) := hcm 3 _ rfl
              have hRL1 := (hRL.below hbm).more hsm
              have hB1 := Lib.hid (hbr.trans (hbm.mono hsr))
              have hs1w := Nat.le_trans hsr hsm
              have M0 := Lib.hid m0
              have M1 := Lib.hid m1
              have M2 := Lib.hid m2
              have M3 := Lib.hid m3
              clear hm hme hRm hcm hownm hown hRL hbr hbm m0 m1 m2 m3
              have hl4 : ([i0, i1, i2, i3] : List Nat).length = 4 := rfl
              rw [hl4]
              clear hl4
              go_wp2_with fail
              go_loopw [10, 11, 12] (fun s v i wi => ∃ (k : Nat), k ≤ L.length ∧ i = .int .i64 k ∧ (∃ S : Nat, s = .int .i64 S ∧ S ≤ 65536 ∧ Hid (S = selTo L [i0, i1, i2, i3] k)) ∧ wi.ownsRow W1.heap.size 44 4 v (restTo L [i0, i1, i2, i3] k).length (segCells (restTo L [i0, i1, i2, i3] k)) ∧ Below W1.heap.size W1 wi) (fun _ _ i _ => L.length - (intOf i).toNat)
              case atStart => exact ⟨0, Nat.zero_le _, rfl, ⟨0, rfl, by omega, Lib.hid rfl⟩, World.ownsRow_nil _ _ _ _, Below.refl _ _⟩
              case round =>
                obtain ⟨k, hk, rfl, ⟨S, rfl, hS, HS⟩, hown, hbi⟩ := hrel
                have hsi := hbi.size
                have hrl := restTo_len L [i0, i1, i2, i3] k
                have m0 := (hbi.cell hb2lt).trans M0.out
                have m1 := (hbi.cell hb2lt).trans M1.out
                have m2 := (hbi.cell hb2lt).trans M2.out
                have m3 := (hbi.cell hb2lt).trans M3.out
                rcases Nat.lt_or_ge k L.length with hlt | hge
                · obtain ⟨bb, oo, hA, hbblt, c0, cc1, cc2, c3⟩ := seg_at (hRL1.below hbi) hlt
                  cases hA
                  have HGk : 1 ≤ L[k].cnt.toInt ∧ cn L[k] ≤ T := ⟨HG.out _ (List.getElem_mem hlt), by rw [HT.out]; exact cn_le_tot (List.getElem_mem hlt)⟩
                  by_cases hmem : k ∈ [i0, i1, i2, i3]
                  · obtain ⟨HR1, HR2⟩ := restTo_in hlt hmem
                    have hS2 : S + cn L[k] ≤ 65536 := by
                      have h := sel_rest L [i0, i1, i2, i3] (k + 1) (by omega)
                      have h2 : tot (L.take (k + 1)) ≤ tot L := by
                        conv => rhs; rw [← List.take_append_drop (k + 1) L, tot_append]
                        omega
                      rw [HR2, ← HS.out] at h
                      have := HT.out
                      omega
                    have HS2 : Hid (S + cn L[k] = selTo L [i0, i1, i2, i3] (k + 1)) := Lib.hid (by rw [HR2, HS.out])
                    have HR3 := Lib.hid HR1
                    rw [mem4] at hmem
                    have hcn : (cn L[k] : Int) = L[k].cnt.toInt := by unfold cn; omega
                    clear HR1 HR2 c0 cc2 c3
                    simp only [vi] at cc1
                    rw [← hcn] at cc1
                    generalize cn L[k] = x at cc1 HS2 hS2 HGk
                    clear hcn HGk
                    have hmem2 : k = i0 ∨ (k ≠ i0 ∧ k = i1) ∨ (k ≠ i0 ∧ k ≠ i1 ∧ k = i2) ∨ (k ≠ i0 ∧ k ≠ i1 ∧ k ≠ i2 ∧ k = i3) := by omega
                    clear hmem
                    rcases hmem2 with q0 | ⟨q0, q1⟩ | ⟨q0, q1, q2⟩ | ⟨q0, q1, q2, q3⟩
                    · have e0 : ((k : Int) == (i0 : Int)) = true := by simp; omega
                      clear q0
                      go_wp2_with fail
                      go_roundw
                      case rel => exact ⟨k + 1, by omega, by go_num, ⟨S + x, by go_num, hS2, HS2⟩, by rw [HR3.out]; exact hown, hbi⟩
                      case measure => simp [intOf]; omega
                    · have e0 : ((k : Int) == (i0 : Int)) = false := by simp; omega
                      have e1 : ((k : Int) == (i1 : Int)) = true := by simp; omega
                      clear q0 q1
                      go_wp2_with fail
                      go_roundw
                      case rel => exact ⟨k + 1, by omega, by go_num, ⟨S + x, by go_num, hS2, HS2⟩, by rw [HR3.out]; exact hown, hbi⟩
                      case measure => simp [intOf]; omega
                    · have e0 : ((k : Int) == (i0 : Int)) = false := by simp; omega
                      have e1 : ((k : Int) == (i1 : Int)) = false := by simp; omega
                      have e2 : ((k : Int) == (i2 : Int)) = true := by simp; omega
                      clear q0 q1 q2
                      go_wp2_with fail
                      go_roundw
                      case rel => exact ⟨k + 1, by omega, by go_num, ⟨S + x, by go_num, hS2, HS2⟩, by rw [HR3.out]; exact hown, hbi⟩
                      case measure => simp [intOf]; omega
                    · have e0 : ((k : Int) == (i0 : Int)) = false := by simp; omega
                      have e1 : ((k : Int) == (i1 : Int)) = false := by simp; omega
                      have e2 : ((k : Int) == (i2 : Int)) = false := by simp; omega
                      have e3 : ((k : Int) == (i3 : Int)) = true := by simp; omega
                      clear q0 q1 q2 q3
                      go_wp2_with fail
                      go_roundw
                      case rel => exact ⟨k + 1, by omega, by go_num, ⟨S + x, by go_num, hS2, HS2⟩, by rw [HR3.out]; exact hown, hbi⟩
                      case measure => simp [intOf]; omega
                  · obtain ⟨HR1, HR2⟩ := restTo_out hlt hmem
                    have HS2 : Hid (S = selTo L [i0, i1, i2, i3] (k + 1)) := Lib.hid (by rw [HR2, HS.out])
                    have HR3 : Hid (segCells (restTo L [i0, i1, i2, i3] (k + 1)) = segCells (restTo L [i0, i1, i2, i3] k) ++ L[k].cells) := Lib.hid (by rw [HR1, segCells_append]; simp [segCells])
                    have HR4 : Hid ((restTo L [i0, i1, i2, i3] (k + 1)).length = (restTo L [i0, i1, i2, i3] k).length + 1) := Lib.hid (by rw [HR1, List.length_append]; rfl)
                    rw [mem4] at hmem
                    have e0 : ((k : Int) == (i0 : Int)) = false := by simp; omega
                    have e1 : ((k : Int) == (i1 : Int)) = false := by simp; omega
                    have e2 : ((k : Int) == (i2 : Int)) = false := by simp; omega
                    have e3 : ((k : Int) == (i3 : Int)) = false := by simp; omega
                    clear hmem HR1 HR2 HGk
                    generalize L[k] = sg at c0 cc1 cc2 c3 HR3
                    obtain ⟨s0, s1, s2, s3⟩ := sg
                    simp only [vi, Sg.cells] at c0 cc1 cc2 c3 HR3
                    generalize s0.toInt = x0 at c0 HR3
                    generalize s1.toInt = x1 at cc1 HR3
                    generalize s2.toInt = x2 at cc2 HR3
                    generalize s3.toInt = x3 at c3 HR3
                    go_wp2_with (at_builtin; go_must (refine appSeg rfl (.tmp 101) (.tmp 106) rfl (.int .i64 x0) (.int .i64 x1) (.int .i64 x2) (.int .i64 x3) (by simp [Value.oneCell']) _ rfl W1.heap.size _ _ _ rfl (by exact hown) _ rfl rfl (by omega) hsi ?_))
                    intro v2 w2 hown2 hg2
                    have hb2 := hg2.below4 hbi hown hsi
                    clear hg2 hown hbi c0 cc1 cc2 c3 m0 m1 m2 m3
                    go_wp2_with fail
                    go_roundw
                    case rel => exact ⟨k + 1, by omega, by go_num, ⟨S, rfl, hS, HS2⟩, by rw [HR3.out, HR4.out]; exact hown2, hb2⟩
                    case measure => simp [intOf]; omega
                · obtain rfl : k = L.length := by omega
                  have hcount := rest_count L h01 h12 h23 L.length (Nat.le_refl _)
                  have hS1 : 1 ≤ S := by rw [HS.out]; exact selTo_pos HG.out (i := i0) (by simp) (by omega) L.length (by omega)
                  have hrl4 : (restTo L [i0, i1, i2, i3] L.length).length + 4 = L.length := by omega
                  have hsum : S + tot (restTo L [i0, i1, i2, i3] L.length) = T := by rw [HS.out, HT.out, sel_rest _ _ _ (Nat.le_refl _), List.take_length]
                  have hgR := Lib.hid (restTo_good HG.out [i0, i1, i2, i3] L.length)
                  clear hcount HS HT hrl
                  generalize restTo L [i0, i1, i2, i3] L.length = R at hown hrl4 hsum hgR ⊢
                  obtain ⟨A5, c5, rfl, -⟩ := own_slice hown
                  have q1 : ((R.length : Int) != (L.length : Int) - 4) = false := by simp; omega
                  have HB5 := Lib.hid (hB1.out.trans (hbi.mono hs1w))
                  generalize htr : tot R = TR at hsum
                  have HTR := Lib.hid htr
                  clear htr m0 m1 m2 m3 HG
                  by_cases hlv : j < ls.length
                  · obtain ⟨bb, oo, hA, hbblt, hc⟩ := hr'.at_ (k := j) (by simpa using hlv)
                    cases hA
                    have d : w.cell? ⟨bb, oo + j, none⟩ = some (v16 ls[j]) := hc j _ (by simp [hlv])
                    have d1 := (HB5.out.cell hbblt).trans d
                    have hx16 : ls[j].toNat ≤ 65535 := by have := ls[j].toNat_lt; omega
                    clear d hc hr' hbblt
                    simp only [v16] at d1
                    generalize ls[j].toNat = x at d1 hx16
                    have hmod : x % S < S := Nat.mod_lt _ (by omega)
                    have HRL := Lib.hid hrl4
                    have hn : ((x % S + 1 : Nat) : Int) = (x : Int) % (S : Int) + 1 := by simp
                    have HNN := Lib.hid hn
                    obtain ⟨n, hn'⟩ : ∃ n, x % S + 1 = n := ⟨_, rfl⟩
                    have hn1 : 1 ≤ n ∧ n ≤ S := by omega
                    have HN1 := Lib.hid hn'
                    clear hn hn'
                    go_wp2_with (at_builtin; go_must (refine appSeg rfl (.tmp 132) (.tmp 137) rfl (.int .i64 (1000 + j)) (.int .i64 ((x : Int) % (S : Int) + 1)) (.int .i64 0) (.int .i64 0) (by simp [Value.oneCell']) _ rfl W1.heap.size _ _ _ rfl (by exact hown) _ rfl rfl (by omega) hsi ?_))
                    intro v2 w2 hown2 hg2
                    have hb2 := hg2.below4 hbi hown hsi
                    have hE : (x : Int) % (S : Int) + 1 = (n : Int) := by rw [← HNN.out, HN1.out]
                    rw [hE] at hown2 ⊢
                    clear hg2 hown hbi hE HNN HN1 d1 hx16 hmod
                    have HN := Lib.hid (tot_app R (1000 + j) n hn1.1 (by omega))
                    have HG2 := Lib.hid (good_app hgR.out (1000 + j) n hn1.1 (by omega))
                    go_wp2_with fail
                    go_roundw
                    case rel => exact ⟨j + 1, R ++ [⟨Int64.ofInt (1000 + j), Int64.ofInt n, 0, 0⟩], by go_num, ⟨TR + n, by go_num, by omega, Lib.hid (by rw [HN.out, HTR.out])⟩, by have := HRL.out; simp; omega, HG2, by rw [segCells_app _ _ _ (by omega) (by omega), List.length_append]; exact own_base hown2 hs1w, hB1.out.trans (hb2.mono hs1w)⟩
                    case measure => simp [intOf]; omega
                  · go_wp2_with (at_builtin; go_must (refine appSeg rfl (.tmp 132) (.tmp 137) rfl (.int .i64 (1000 + j)) (.int .i64 S) (.int .i64 0) (.int .i64 0) (by simp [Value.oneCell']) _ rfl W1.heap.size _ _ _ rfl (by exact hown) _ rfl rfl (by omega) hsi ?_))
                    intro v2 w2 hown2 hg2
                    have hb2 := hg2.below4 hbi hown hsi
                    clear hg2 hown hbi
                    have HN := Lib.hid (tot_app R (1000 + j) S hS1 hS)
                    have HG2 := Lib.hid (good_app hgR.out (1000 + j) S hS1 hS)
                    go_wp2_with fail
                    go_roundw
                    case rel => exact ⟨j + 1, R ++ [⟨Int64.ofInt (1000 + j), Int64.ofInt S, 0, 0⟩], by go_num, ⟨TR + S, by go_num, by omega, Lib.hid (by rw [HN.out, HTR.out])⟩, by simp; omega, HG2, by rw [segCells_app _ _ _ (by omega) (by omega), List.length_append]; exact own_base hown2 hs1w, hB1.out.trans (hb2.mono hs1w)⟩
                    case measure => simp [intOf]; omega
end Go.Proofs.Ytpfladolkkhfdaa
