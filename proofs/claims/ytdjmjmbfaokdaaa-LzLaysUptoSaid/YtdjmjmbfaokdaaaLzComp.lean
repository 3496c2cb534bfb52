/- The walk of lz.Compress. -/
import Derived.Test.YtdjmjmbfaokdaaaLzLit
import Derived.Test.YtdjmjmbfaokdaaaLzKey
import Derived.Test.YtdjmjmbfaokdaaaLzExpand
namespace Go.Proofs.Ytdjmjmbfaokdaaa
set_option linter.unusedVariables false
open Go.RowKit
open Varm

theorem keyAt_len {b : List UInt8} {p : Nat} (h : p + 4 ≤ b.length) : (keyAt b p).length = 4 := by unfold keyAt; rw [List.length_take, List.length_drop]; omega

/-- A whole variable is stored into the block that was made last. -/
theorem wpList_store_new {P : Program} {w : World} {ops : Array Oper} {rest : List Oper} {o : Oper} {a : Act} {Q : Exit → Act → World → Prop} (hg : o.guard = none) (t : TypeId) (x y : Operand) (ho : o.op = .store t x y)
    (c c' : Array Value) (b : Nat) (hx : a.eval x = .pointer (some ⟨b, 0, none⟩)) (hb : b = w.heap.size) (hy : a.eval y = .agg c') (hi : (P.info? t).map (·.size) = some c'.size) (hs : c.size = c'.size) (h1 : c'.all (·.oneCell') = true)
    (h : wpList P ops Q rest (a.put o.dst undef) (w.alloc (.cells c' t))) : wpList P ops Q (o :: rest) a (w.alloc (.cells c t)) := by
  subst hb
  refine wpList_plain hg fun K' hK' => ?_
  unfold Oper.wp execOp
  simp only [ho, hx, hy, Sem.run_bind, Sem.run_pure, run_storeAt_new w t c c' hi hs h1, Result.andThen_ok]
  exact hK' _ _ h

theorem run_arr4 (A : Option Addr) (c : Nat) (w : World) : (Instr.arrayAt 50 (.slice A 4 c)).run Try.prog w = .ok (.pointer A) w := by
  simp only [Instr.arrayAt, Sem.run_bind, run_underlying Try.underlying50, Result.andThen_ok]
  rw [if_neg (by omega)]
  rfl

theorem or_one64 (n : Nat) (h : n < 9223372036854775808) : bits .or .u64 ((n : Int) * 2) 1 = ((2 * n + 1 : Nat) : Int) := by
  have h1 := u64_or_nat (n * 2) 1 (by omega) (by omega)
  have h2 : n * 2 ||| 1 = 2 * n + 1 := by
    have := nat_join 1 (n * 2) 1 (by omega) (by omega)
    omega
  rw [h2] at h1
  have e : ((n * 2 : Nat) : Int) = (n : Int) * 2 := by omega
  rw [e] at h1
  exact h1

/-- What the loop holds. -/
structure CompI (b : List UInt8) (B bm : Nat) (w wr : World) (v : Value) (from_ p : Nat) : Prop where
  le : from_ ≤ p
  le2 : p ≤ b.length
  ex : ∃ (out : List UInt8) (S : List UInt8 → Option Nat) (f : Nat) (D : DataW Unit), b.length - p < f ∧ out.length ≤ 10 + 5 * from_ ∧ compS b (b.length + 1) (one b.length) (fun _ => none) 0 0 = compS b f out S from_ p ∧
    SeenIs D S ∧ (∀ k q, S k = some q → q < p) ∧ wr.ownsRow B 5 1 v out.length (out.map vb) ∧ wr.ownsMap Try.prog 50 (plainElem (H := Unit) Try.prog 3) bm p D ∧ (∀ g, v.ownBlock = some g → g ≠ bm)
  map_ : B ≤ bm
  bel : Below B w wr

set_option maxHeartbeats 1000000 in
set_option maxRecDepth 100000 in
theorem comp_any (b : List UInt8) (A : Option Addr) (c : Nat) (w : World) (B : Nat) (hr : Reads w B A (b.map vb)) (hB : B ≤ w.heap.size) (hc : b.length ≤ c) (hl : b.length ≤ 140737488355328) :
    Calls Try.prog 17 #[.slice A b.length c] w (ExpAns (compress b) B w) := by
  rcases Nat.lt_or_ge 65536 b.length with hbig | hsm
  · have hE : compress b = ([], 4) := by unfold compress; rw [if_pos hbig]
    rw [hE]
    have hd : decide ((65536 : Int) < (b.length : Int)) = true := decide_eq_true (by omega)
    go_enter Try.func17, Try.ntmps17
    go_wp2
    go_ret2
    exact expAns_err rfl (Below.refl _ _)
  · have hE : compress b = (compS b (b.length + 1) (one b.length) (fun _ => none) 0 0, 0) := by unfold compress; rw [if_neg (by omega)]
    rw [hE]
    clear hE hl
    have hd : decide ((65536 : Int) < (b.length : Int)) = false := decide_eq_false (by omega)
    go_enter Try.func17, Try.ntmps17
    go_wp2_with fail
    refine (put1_at b.length (by omega) w w.heap.size rfl).mono ?_
    rintro e w1 ⟨v1, rfl, hown1, hb1⟩
    have hs1 := hb1.size
    have hol := one_len b.length (by omega)
    have hm1 := World.ownsMap_made w1 Try.prog 50 (plainElem (H := Unit) Try.prog 3)
    have hI : CompI b B w1.heap.size w (w1.alloc (.map #[] 0)) v1 0 0 := ⟨Nat.le_refl _, Nat.zero_le _, ⟨one b.length, fun _ => none, b.length + 1, _, by omega, by omega, rfl, seen_empty, (fun k q h => by cases h), (own_base hown1 (by omega)).alloc _, hm1, (fun g hg => by have := (hown1.lt g hg).2; omega)⟩, by omega, (hb1.mono hB).alloc (by omega) _⟩
    clear hm1 hown1 hb1
    have hmm := @run_makeMap Try.prog
    go_wp2_with fail
    clear hmm
    go_loopw [4, 6, 7] (fun v fr pp wr => ∃ from_ p : Nat, fr = .int .i64 from_ ∧ pp = .int .i64 p ∧ CompI b B w1.heap.size w wr v from_ p) (fun _ _ pp _ => b.length - (intOf pp).toNat)
    case atStart => exact ⟨0, 0, rfl, rfl, hI⟩
    case round =>
      clear hI
      obtain ⟨from_, p, rfl, rfl, hI⟩ := hrel
      obtain ⟨h1, h2, ⟨out, S, f, D, hf, hol2, HC, hS, hlt, hown, hmap, hne⟩, hBm, hbel⟩ := hI
      have HCH := Lib.hid HC
      clear HC
      have hsz := hbel.size
      rcases Nat.lt_or_ge b.length (p + 4) with hend | hgo
      · have hgI : (b.length : Int) < (p : Int) + 4 := by omega
        have HST := Lib.hid (HCH.out.trans (compS_end (f := f) (out := out) (S := S) (from_ := from_) hend))
        have hcut := (hr.below hbel).cut (k := from_) (cap := c) (by simpa using hc)
        have hdl : (b.drop from_).length = b.length - from_ := List.length_drop
        rw [← List.map_drop] at hcut
        have hsw := hbel.size
        by_cases hcf : c = from_
        · rw [if_pos hcf] at hcut
          have hlit := literal_any out (b.drop from_) u4 A 0 wr B hown hcut (by omega) (by omega) (by omega)
          rw [hdl] at hlit
          have HL := Lib.hid hlit
          clear hlit hcut hown hmap hS
          go_wp2_with fail
          refine HL.out.mono ?_
          rintro e w4 ⟨v4, rfl, hown4, hb4, -⟩
          go_wp2_with fail
          go_ret2
          rw [HST.out]
          exact ⟨_, rfl, hown4, hbel.trans hb4⟩
        · rw [if_neg hcf] at hcut
          have hlit := literal_any out (b.drop from_) u4 _ (c - from_) wr B hown hcut (by omega) (by omega) (by omega)
          rw [hdl] at hlit
          have HL := Lib.hid hlit
          clear hlit hcut hown hmap hS
          go_wp2_with fail
          refine HL.out.mono ?_
          rintro e w4 ⟨v4, rfl, hown4, hb4, -⟩
          go_wp2_with fail
          go_ret2
          rw [HST.out]
          exact ⟨_, rfl, hown4, hbel.trans hb4⟩
      · have hgI : (p : Int) + 4 ≤ (b.length : Int) := by omega
        obtain ⟨bb, off, rfl, hbB, hcell⟩ := hr.at_ (k := p) (by simp; omega)
        have hct : ¬ c = p := by omega
        have hkl := keyAt_len (b := b) (p := p) hgo
        have hkey := keyOf4 hkl
        have hra : wr.rangeAt bb (off + p) ((keyAt b p).map vb) := fun j u hu => by
          unfold keyAt at hu
          rw [Nat.add_assoc]
          refine (hbel.cell hbB).trans (hcell (p + j) u ?_)
          rw [List.map_take, List.map_drop, List.getElem?_take] at hu
          split at hu
          · rwa [List.getElem?_drop] at hu
          · cases hu
        have ha := run_arr4
        have hsK : (Try.prog.info? 50).map (·.size) = some ((keyAt b p).map vb).length := by rw [List.length_map, hkl]; exact size4
        have hsK2 : (Try.prog.info? 50).map (·.size) = some ((keyAt b p).map vb).toArray.size := hsK
        have hs4 : (#[Value.int .u8 0, .int .u8 0, .int .u8 0, .int .u8 0] : Array Value).size = ((keyAt b p).map vb).toArray.size := by
          have : ((keyAt b p).map vb).length = (keyAt b p).length := List.length_map _
          show 4 = ((keyAt b p).map vb).length
          omega
        have h14 : ((keyAt b p).map vb).toArray.all (·.oneCell') = true := by rw [Array.all_eq_true_iff_forall_mem]; intro u hu; exact oneCell_vb _ u (by simpa using hu)
        have hra2 : (wr.alloc (.cells ((keyAt b p).map vb).toArray 50)).rangeAt wr.heap.size 0 ((keyAt b p).map vb) := fun j u hu => by
          have := World.news_of_block (heap_alloc_new wr (.cells ((keyAt b p).map vb).toArray 50)) j u (by simpa using hu)
          simpa [Addr.add_lit] using this
        have hmap2 := hmap.alloc (.cells ((keyAt b p).map vb).toArray 50)
        have hown2 := hown.alloc (.cells ((keyAt b p).map vb).toArray 50)
        have hz3 : ∀ w, (zeroValue 3).run Try.prog w = .ok (.int .i64 0) w := fun w => rfl
        have HR := Lib.hid hra
        have HR2 := Lib.hid hra2
        have HM := Lib.hid hmap2
        have HK := Lib.hid hkey
        have HS4 := Lib.hid hs4
        have H14 := Lib.hid h14
        have HSK := Lib.hid hsK
        have HSK2 := Lib.hid hsK2
        clear hra hcell hra2 hmap2 hkey hs4 h14 hsK hsK2
        generalize (keyAt b p).map vb = K at *
        go_wp2_with (first
          | (refine wpList_load_mid rfl 50 _ rfl bb (off + p) rfl K _ HR.out Try.underlying50 rfl HSK.out ?_)
          | (refine wpList_store_new rfl 50 _ _ rfl #[.int .u8 0, .int .u8 0, .int .u8 0, .int .u8 0] K.toArray _ rfl rfl rfl HSK2.out HS4.out H14.out ?_)
          | (refine wpList_load_mid rfl 50 _ rfl wr.heap.size 0 rfl K _ HR2.out Try.underlying50 rfl HSK.out ?_)
          | (at_lookup; go_must (refine wpList_lookup_own_ok_int _ rfl _ _ 49 rfl 50 3 .i64 keyed4 Try.underlying49 Try.underlying3 (hz3 _) w1.heap.size p D rfl HM.out (.agg K.toArray) (klOf (keyAt b p)) rfl HK.out ?_)))
        intro cc hat _
        have hSk := hS (keyAt b p) hkl
        have hcc : cc = (((S (keyAt b p)).getD 0 : Nat) : Int) := by
          have := hat.symm.trans hSk.2
          injection this with this
          injection this
        subst hcc
        rw [hSk.1]
        have hSp := seen_put hS hmap.isMap hkl p
        have hwf : (Lit.int .i64 (p : Int)).wf = true := by simp [Lit.wf, IntKind.min, IntKind.max, IntKind.signed, IntKind.bits]; omega
        have hpe := plainElem_int (H := Unit) (P := Try.prog) Try.underlying3 hwf
        have hvn : u4.ownBlock = none ∨ u4.ownBlock ≠ some w1.heap.size := by
          cases hvb : u4.ownBlock with
          | none => exact .inl rfl
          | some g => exact .inr (fun h => hne g hvb (by injection h))
        have hbel2 : Below B w (wr.alloc (.cells K.toArray 50)) := hbel.alloc (by omega) _
        have hsz2 : (wr.alloc (.cells K.toArray 50)).heap.size = wr.heap.size + 1 := by simp
        have HSP := Lib.hid hSp
        clear hSp hat hS
        generalize hW1 : wr.alloc (.cells K.toArray 50) = W1 at *
        obtain ⟨f', rfl⟩ : ∃ f', f = f' + 1 := ⟨f - 1, by omega⟩
        cases hsk : S (keyAt b p) with
        | none =>
          simp only [Option.isSome_none, Option.getD_none]
          go_wp2_with (first
            | (refine wpList_load_mid rfl 50 _ rfl wr.heap.size 0 rfl K _ HR2.out Try.underlying50 rfl HSK.out ?_)
            | (at_mapUpdate; go_must (refine wpList_mapUpdate_own _ rfl _ _ _ 49 rfl 50 3 keyed4 Try.underlying49 _ w1.heap.size p D rfl HM.out (by unfold maxLen; omega) _ _ (klOf (keyAt b p)) rfl rfl HK.out _ [] hpe ?_)))
          intro w2 hmap3 hgr2
          have hown3 := hown2.kept hgr2 hvn
          have hbel3 := hbel2.grown hgr2 (by omega) (fun g hg => by injection hg with hg; omega)
          have HST := Lib.hid (HCH.out.trans (compS_skip (f := f') (out := out) (S := S) (from_ := from_) hgo (by rw [hsk]; simp)))
          clear hmap hown hown2 hbel2 hbel hgr2
          go_wp2_with fail
          go_roundw
          case rel => exact ⟨from_, p + 1, rfl, by go_num, ⟨by omega, by omega, ⟨out, _, f', _, by omega, hol2, HST.out, HSP.out, fun k r hk => by
            by_cases e : k = keyAt b p
            · rw [if_pos e] at hk; injection hk with hk; omega
            · rw [if_neg e] at hk; have := hlt k r hk; omega, hown3, hmap3, hne⟩, hBm, hbel3⟩⟩
          case measure => simp [intOf]; omega
        | some q =>
          have hq := hlt (keyAt b p) q hsk
          simp only [Option.isSome_some, Option.getD_some]
          have hlt2 : ∀ k r, (if k = keyAt b p then some p else S k) = some r → r < p + 1 := fun k r hk => by
            by_cases e : k = keyAt b p
            · rw [if_pos e] at hk; injection hk with hk; omega
            · rw [if_neg e] at hk; have := hlt k r hk; omega
          go_wp2_with (first
            | (refine wpList_load_mid rfl 50 _ rfl wr.heap.size 0 rfl K _ HR2.out Try.underlying50 rfl HSK.out ?_)
            | (at_mapUpdate; go_must (refine wpList_mapUpdate_own _ rfl _ _ _ 49 rfl 50 3 keyed4 Try.underlying49 _ w1.heap.size p D rfl HM.out (by unfold maxLen; omega) _ _ (klOf (keyAt b p)) rfl rfl HK.out _ [] hpe ?_)))
          intro w2 hmap3 hgr2
          have hown3 := hown2.kept hgr2 hvn
          have hbel3 := hbel2.grown hgr2 (by omega) (fun g hg => by injection hg with hg; omega)
          have hr3 := hr.below hbel3
          have hgs := hgr2.size
          have hlm := hmap.lt
          clear hmap hown hown2 hbel2 hbel hgr2
          go_wp2_with fail
          refine (same_any b _ c q p w2 B hr3 hq h2 hsm).mono ?_
          rintro e w3 ⟨rfl, nn, rfl⟩
          have hown4 : (w2.drewN nn).ownsRow B 5 1 u4 out.length (out.map vb) := hown3
          have hmap4 : (w2.drewN nn).ownsMap Try.prog 50 (plainElem (H := Unit) Try.prog 3) w1.heap.size (p + 1) (D.put (klOf (keyAt b p)) (.lit (.int .i64 (p : Int)))) := hmap3
          have hbel4 := below_drewN (n := nn) hbel3
          have hr4 := hr3.drewN nn
          have hg4 : w2.heap.size = (w2.drewN nn).heap.size := rfl
          clear hown3 hmap3 hbel3 hr3
          generalize w2.drewN nn = w3 at *
          rcases Nat.lt_or_ge (sameAt b q p) 8 with h8 | h8
          · have HST := Lib.hid (HCH.out.trans (compS_skip (f := f') (out := out) (S := S) (from_ := from_) hgo (by rw [hsk]; simpa using h8)))
            have h8I : decide (((sameAt b q p : Nat) : Int) < 8) = true := decide_eq_true (by omega)
            generalize sameAt b q p = n at *
            go_wp2_with fail
            go_roundw
            case rel => exact ⟨from_, p + 1, rfl, by go_num, ⟨by omega, by omega, ⟨out, _, f', _, by omega, hol2, HST.out, HSP.out, hlt2, hown4, hmap4, hne⟩, hBm, hbel4⟩⟩
            case measure => simp [intOf]; omega
          · have HST := Lib.hid (HCH.out.trans (compS_match (f := f') (out := out) (S := S) (from_ := from_) hgo hsk h8))
            have hsl := sameAt_le b q p
            have h8I : decide (((sameAt b q p : Nat) : Int) < 8) = false := decide_eq_false (by omega)
            have h8J : ¬ (((sameAt b q p : Nat) : Int) < 8) := by omega
            generalize sameAt b q p = n at *
            obtain ⟨A4, c4, rfl, -⟩ := own_slice hown4
            have hsub : Reads w3 B (some ⟨bb, off + from_, none⟩) (((b.drop from_).take (p - from_)).map vb) := by
              rw [List.map_take, List.map_drop]
              refine Reads.take ?_ _
              have h := hr4.cut (k := from_) (cap := c) (by simpa using hc)
              rw [if_neg (by omega), Option.map_some, Addr.add_lit] at h
              exact h
            have hll : ((b.drop from_).take (p - from_)).length = p - from_ := by rw [List.length_take, List.length_drop]; omega
            have hlo := litOf_len out ((b.drop from_).take (p - from_)) (by omega)
            have hlit := literal_any out ((b.drop from_).take (p - from_)) _ _ (c - from_) w3 B hown4 hsub (by omega) (by omega) (by omega)
            rw [hll] at hlit hlo
            have HL := Lib.hid hlit
            have hct2 : ¬ c = from_ := by omega
            generalize litOf out ((b.drop from_).take (p - from_)) = G at *
            clear hlit hsub hll hown4 hr4
            go_wp2_with fail
            refine HL.out.mono ?_
            rintro e w4 ⟨v4, rfl, hown5, hb5, hgr5⟩
            have hmap5 := hmap4.kept hgr5.by_ (fun h2 => by
              rcases hvn with h | h
              · rw [h] at h2; cases h2
              · exact h h2.symm)
            have hne5 : ∀ g, v4.ownBlock = some g → g ≠ w1.heap.size := fun g hg => by
              rcases hgr5.at_ with h | ⟨k, h, hk⟩
              · rw [h] at hg; exact hne g hg
              · rw [h] at hg; injection hg with hg; omega
            have hbel5 := hbel4.trans hb5
            have hs5 := hb5.size
            have hlm5 := hmap5.lt
            obtain ⟨A5, c5, rfl, -⟩ := own_slice hown5
            clear HL hmap4 hgr5 hb5 hbel4
            have hor : bits .or .u64 ((n : Int) * 2) 1 = ((2 * n + 1 : Nat) : Int) := by
              have h := or_one64 n (by omega)
              exact h
            have hpq : (p : Int) - (q : Int) = ((p - q : Nat) : Int) := by omega
            go_wp2_with fail
            have hP := put2_at (2 * n + 1) (p - q) (by omega) (by omega) w4 w4.heap.size rfl
            rw [show ((2 * n + 1 : Nat) : Int) = 2 * (n : Int) + 1 by omega] at hP
            refine hP.mono ?_
            clear hP
            rintro e w5 ⟨v5, rfl, hown6, hb6⟩
            have hs6 := hb6.size
            have hown56 := own_past hown5 hb6 (Nat.le_refl _)
            have hmap6 := hmap5.kept (grown_of_below hb6 (Nat.le_refl _) none) (by simp)
            have hbel6 := hbel5.trans (hb6.mono (by omega))
            have h21 := one_len (2 * n + 1) (by omega)
            have h22 := one_len (p - q) (by omega)
            have hl6 : (one (2 * n + 1) ++ one (p - q)).length = (one (2 * n + 1)).length + (one (p - q)).length := List.length_append
            obtain ⟨A6, c6, rfl, -⟩ := own_slice hown6
            have hrp := Reads.of_own hown6
            generalize one (2 * n + 1) ++ one (p - q) = M at *
            clear hown5 hmap5 hb6 hbel5 hown6
            go_wp2_with (at_builtin; go_must (refine app rowByte rfl _ _ rfl B _ _ _ rfl (by exact hown56) w5.heap.size _ _ _ (M.map vb) rfl (by rw [List.length_map, hl6]) (by exact hrp) (oneCell_vb _) (by omega) (by omega) ?_))
            intro v7 w7 hown7 hg7
            have hmap7 := hmap6.kept hg7.by_ (fun h2 => hne5 _ h2.symm rfl)
            have hbel7 := hg7.below hbel6 hown56 (by omega)
            have hne7 : ∀ g, v7.ownBlock = some g → g ≠ w1.heap.size := fun g hg => by
              rcases hg7.at_ with h | ⟨k, h, hk⟩
              · rw [h] at hg; exact hne5 g hg
              · rw [h] at hg; injection hg with hg; omega
            have hl7 : (G ++ M).length = G.length + M.length := List.length_append
            have hown8 : w7.ownsRow B 5 1 v7 (G ++ M).length ((G ++ M).map vb) := by rw [hl7, List.map_append]; first | exact hown7 | (rw [hl6]; exact hown7)
            clear hown56 hmap6 hg7 hrp hbel6
            go_wp2_with fail
            go_roundw
            case rel => exact ⟨p + n, p + n, by go_num, by go_num, ⟨by omega, by omega, ⟨G ++ M, _, f', _, by omega, by omega, HST.out, HSP.out, (fun k r hk => by have := hlt2 k r hk; omega), hown8, hmap7.mono (by omega), hne7⟩, hBm, hbel7⟩⟩
            case measure => simp [intOf]; omega
end Go.Proofs.Ytdjmjmbfaokdaaa
