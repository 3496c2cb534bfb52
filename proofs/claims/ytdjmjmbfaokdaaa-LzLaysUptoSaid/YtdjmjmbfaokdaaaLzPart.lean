/- The walk of laying a part. -/
import Derived.Test.YtdjmjmbfaokdaaaLzM
import Derived.Test.YtdjmjmbfaokdaaaRefGet
import Derived.Test.YtdjmjmbfaokdaaaGet
import Derived.Laws.BitsAllLaws
import Derived.Deep.DeepMust
namespace Go.Proofs.Ytdjmjmbfaokdaaa
set_option linter.unusedVariables false
open Go.RowKit
open Varm

theorem and_one64 (p : Nat) (h : p < 18446744073709551616) : bits .and .u64 (p : Int) 1 = ((p % 2 : Nat) : Int) := by
  have := u64_and_nat p 1 h (by omega)
  rw [Nat.and_one_is_mod] at this
  exact this
theorem castZero : ((0 : Nat) : Int) = 0 := rfl
/-- 'app1', the block's number a letter. -/
theorem app1c {P : Program} {w : World} {t e : TypeId} {bytes : Nat} (R : Row P t e bytes) {ops : Array Oper} {rest : List Oper} {o : Oper} {a : Act} {Q : Exit → Act → World → Prop} (hgd : o.guard = none) (s x : Operand)
    (ho : o.op = .call { callee := .builtin .append, args := #[s, x], argTypes := #[t, t] }) (u : Value)
    (base : Nat) (v : Value) (n : Nat) (xs : List Value) (hs : a.eval s = v) (hown : w.ownsRow base e 1 v n xs) (b : Nat)
    (hx : a.eval x = .slice (some ⟨b, 0, none⟩) 1 1) (hb : b = w.heap.size) (h1 : u.oneCell' = true)
    (hbytes : (n + 1) * (bytes + 1) ≤ 140737488355328) (hbase : base ≤ w.heap.size)
    (h : ∀ v' w', w'.ownsRow base e 1 v' (n + 1) (xs ++ [u]) → Grew w v w' v' → wpList P ops Q rest (a.put o.dst v') w') : wpList P ops Q (o :: rest) a (w.alloc (.cells #[u] e)) := by
  subst hb
  exact app1 R hgd s x ho u base v n xs hs hown hx h1 hbytes hbase h

/-- What a part's laying answers. -/
def PartAns (r : List UInt8 × Nat × Nat) (B : Nat) (w : World) (e : Ending) (w' : World) : Prop :=
  ∃ v, e = .returned (.tuple #[v, .int .i64 (r.2.1 : Int), .int .i64 (r.2.2 : Int)]) ∧ w'.ownsRow B 5 1 v r.1.length (r.1.map vb) ∧ Below B w w'
theorem partAns_err {B : Nat} {w : World} {k : Int} {n : Nat} (h : k = (n : Int)) : PartAns ([], 0, n) B w (.returned (.tuple #[.slice none 0 0, .int .i64 0, .int .i64 k])) w := by
  subst h
  exact ⟨_, rfl, World.ownsRow_nil _ _ _ _, Below.refl _ _⟩

set_option maxHeartbeats 1000000 in
set_option maxRecDepth 100000 in
theorem part_any (out b : List UInt8) (vo : Value) (A : Option Addr) (c at_ total : Nat) (w : World) (B : Nat) (hown : w.ownsRow B 5 1 vo out.length (out.map vb)) (hr : Reads w B A (b.map vb)) (hB : B ≤ w.heap.size)
    (hc : b.length ≤ c) (hc2 : c ≤ 9223372036854775807) (ho : out.length ≤ total) (ht : total ≤ 65536) :
    Calls Try.prog 27 #[vo, .slice A b.length c, .int .i64 at_, .int .i64 total] w (PartAns (partAt out b at_ total) B w) := by
  have hg := get_any b A c at_ w B hr hc (by omega)
  obtain ⟨r1, r2, r3, r4, r5⟩ := getAt_range4 b at_
  have hP : partAt out b at_ total = partAt out b at_ total := rfl
  conv at hP => rhs; unfold partAt
  obtain ⟨p, f, e, hv⟩ : ∃ p f e, getAt b at_ = (p, f, e) := ⟨_, _, _, rfl⟩
  rw [hv] at hg r1 r2 r3 r4 r5 hP
  simp only at r1 r2 r3 r4 r5 hP
  obtain ⟨t, rfl⟩ := Int.eq_ofNat_of_zero_le r2
  simp only [Int.toNat_natCast] at hP
  obtain ⟨Ao, co, rfl, -⟩ := own_slice hown
  have HG := Lib.hid hg
  have HA := Lib.hid (and_one64 p r1)
  have HR1 := Lib.hid r1
  clear hg hv r2 r5
  rcases Nat.eq_zero_or_pos e with he | he
  · subst he
    rw [if_neg (by simp)] at hP
    by_cases hn0 : p / 2 = 0
    · rw [if_pos (.inl hn0)] at hP
      have q1 : ((p : Int) / 2 == 0) = true := by simp only [beq_iff_eq]; omega
      rw [hP]
      clear hP
      go_enter Try.func27, Try.ntmps27
      go_wp2_with (go_at_call 26; go_must (refine HG.out.mono ?_); rintro e w' ⟨rfl, rfl⟩; simp only [getV])
      go_ret3
      exact partAns_err rfl
    · have q1 : ((p : Int) / 2 == 0) = false := by simp only [beq_eq_false_iff_ne, ne_eq]; omega
      rcases Nat.mod_two_eq_zero_or_one p with hp2 | hp2
      · have qa : (bits .and .u64 (p : Int) 1 == 1) = false := by rw [HA.out, hp2]; rfl
        have qb : (bits .and .u64 (p : Int) 1 == 0) = true := by rw [HA.out, hp2]; rfl
        by_cases hbig : total - out.length < p / 2
        · rw [if_pos (.inr (.inr hbig))] at hP
          have q2 : (total : Int) - (out.length : Int) < (p : Int) / 2 := by omega
          rw [hP]
          clear hP
          go_enter Try.func27, Try.ntmps27
          go_wp2_with (go_at_call 26; go_must (refine HG.out.mono ?_); rintro e w' ⟨rfl, rfl⟩; simp only [getV])
          go_ret3
          exact partAns_err rfl
        · rw [if_neg (by omega), if_pos hp2] at hP
          have q2 : (p : Int) / 2 ≤ (total : Int) - (out.length : Int) := by omega
          by_cases hsh : b.length - t < p / 2
          · rw [if_pos hsh] at hP
            have q3 : (b.length : Int) - (t : Int) < (p : Int) / 2 := by omega
            rw [hP]
            clear hP
            go_enter Try.func27, Try.ntmps27
            go_wp2_with (go_at_call 26; go_must (refine HG.out.mono ?_); rintro e w' ⟨rfl, rfl⟩; simp only [getV])
            go_ret3
            exact partAns_err rfl
          · rw [if_neg hsh] at hP
            have q3 : (p : Int) / 2 ≤ (b.length : Int) - (t : Int) := by omega
            rw [hP]
            clear hP
            obtain ⟨bb, off, rfl, -⟩ := hr.at_ (k := t) (by simp; omega)
            have hsub : Reads w B (some ⟨bb, off + t, none⟩) (((b.drop t).take (p / 2)).map vb) := by
              rw [List.map_take, List.map_drop]
              refine Reads.take ?_ _
              have h := hr.cut (k := t) (cap := c) (by simpa using hc)
              rw [if_neg (by omega), Option.map_some, Addr.add_lit] at h
              exact h
            have hl2 : ((b.drop t).take (p / 2)).length = p / 2 := by rw [List.length_take, List.length_drop]; omega
            obtain ⟨n, hn⟩ : ∃ n, p / 2 = n := ⟨_, rfl⟩
            have hnI : (p : Int) / 2 = (n : Int) := by omega
            rw [hn] at hsub hl2 hn0 hbig hsh ⊢
            rw [hnI] at q1 q2 q3
            have HL2 := Lib.hid hl2
            have hct : ¬ c = t := by omega
            clear hn hp2 hn0 hbig hsh hl2 hr
            go_enter Try.func27, Try.ntmps27
            go_wp2_with (first
              | (go_at_call 26; go_must (refine HG.out.mono ?_); rintro e w' ⟨rfl, rfl⟩; simp only [getV])
              | (at_builtin; go_must (refine app rowByte rfl _ _ rfl B _ _ _ rfl (by exact hown) B _ _ _ (((b.drop t).take n).map vb) rfl (by rw [List.length_map, HL2.out]; omega) (by exact hsub) (oneCell_vb _) (by omega) hB ?_)))
            intro v2 w2 hown2 hg2
            have hb2 := hg2.below (Below.refl _ _) hown hB
            have h3 : w2.ownsRow B 5 1 v2 (out ++ (b.drop t).take n).length ((out ++ (b.drop t).take n).map vb) := by
              rw [List.length_append, HL2.out]
              simpa using hown2
            clear hown2 hg2
            go_wp2_with fail
            go_ret3
            exact ⟨_, rfl, h3, hb2⟩
      · have qa : (bits .and .u64 (p : Int) 1 == 1) = true := by rw [HA.out, hp2]; rfl
        have qb : (bits .and .u64 (p : Int) 1 == 0) = false := by rw [HA.out, hp2]; rfl
        by_cases h4 : p / 2 < 4
        · rw [if_pos (.inr (.inl ⟨hp2, h4⟩))] at hP
          have q4 : (p : Int) / 2 < 4 := by omega
          rw [hP]
          clear hP
          go_enter Try.func27, Try.ntmps27
          go_wp2_with (go_at_call 26; go_must (refine HG.out.mono ?_); rintro e w' ⟨rfl, rfl⟩; simp only [getV])
          go_ret3
          exact partAns_err rfl
        · have q4 : 4 ≤ (p : Int) / 2 := by omega
          by_cases hbig : total - out.length < p / 2
          · rw [if_pos (.inr (.inr hbig))] at hP
            have q2 : (total : Int) - (out.length : Int) < (p : Int) / 2 := by omega
            rw [hP]
            clear hP
            go_enter Try.func27, Try.ntmps27
            go_wp2_with (go_at_call 26; go_must (refine HG.out.mono ?_); rintro e w' ⟨rfl, rfl⟩; simp only [getV])
            go_ret3
            exact partAns_err rfl
          · rw [if_neg (by omega), if_neg (by omega)] at hP
            have q2 : (p : Int) / 2 ≤ (total : Int) - (out.length : Int) := by omega
            have hg2 := get_any b A c t w B hr hc (by omega)
            obtain ⟨s1, s2, s3, s4, -⟩ := getAt_range4 b t
            obtain ⟨d, f2, e2, hv2⟩ : ∃ d f2 e2, getAt b t = (d, f2, e2) := ⟨_, _, _, rfl⟩
            rw [hv2] at hg2 s1 s2 s3 s4 hP
            simp only at s1 s2 s3 s4 hP
            obtain ⟨t2, rfl⟩ := Int.eq_ofNat_of_zero_le s2
            simp only [Int.toNat_natCast] at hP
            have HG2 := Lib.hid hg2
            clear hg2 hv2 s2
            rcases Nat.eq_zero_or_pos e2 with he2 | he2
            · subst he2
              rw [if_neg (by simp)] at hP
              by_cases hd : d = 0 ∨ out.length < d
              · rw [if_pos hd] at hP
                rw [hP]
                clear hP
                rcases hd with hd | hd
                · have q5 : ((d : Int) == 0) = true := by simp only [beq_iff_eq]; omega
                  go_enter Try.func27, Try.ntmps27
                  go_wp2_with fail
                  refine HG.out.mono ?_
                  rintro e w' ⟨rfl, rfl⟩
                  simp only [getV]
                  go_wp2_with fail
                  refine HG2.out.mono ?_
                  rintro e w' ⟨rfl, rfl⟩
                  simp only [getV]
                  go_wp2_with fail
                  go_ret3
                  exact partAns_err rfl
                · have q5 : (out.length : Int) < (d : Int) := by omega
                  have q6 : ((d : Int) == 0) = false := by simp only [beq_eq_false_iff_ne, ne_eq]; omega
                  go_enter Try.func27, Try.ntmps27
                  go_wp2_with fail
                  refine HG.out.mono ?_
                  rintro e w' ⟨rfl, rfl⟩
                  simp only [getV]
                  go_wp2_with fail
                  refine HG2.out.mono ?_
                  rintro e w' ⟨rfl, rfl⟩
                  simp only [getV]
                  go_wp2_with fail
                  go_ret3
                  exact partAns_err rfl
              · rw [if_neg hd] at hP
                rw [hP]
                clear hP
                have hd0 : 0 < d ∧ d ≤ out.length := by omega
                have hnt : out.length + p / 2 ≤ total := by omega
                obtain ⟨n, hn⟩ : ∃ n, p / 2 = n := ⟨_, rfl⟩
                have hnI : (p : Int) / 2 = (n : Int) := by omega
                rw [hn] at hnt hbig ⊢
                rw [hnI] at q1 q2 q4
                have q5 : ((d : Int) == 0) = false := by simp only [beq_eq_false_iff_ne, ne_eq]; omega
                have q6 : (d : Int) ≤ (out.length : Int) := by omega
                have hn64 : (n : Int) ≤ 65536 := by omega
                have qd : decide ((total : Int) - (out.length : Int) < (n : Int)) = false := decide_eq_false (by omega)
                have qd2 : decide ((out.length : Int) < (d : Int)) = false := decide_eq_false (by omega)
                have qd3 : decide (out.length < d) = false := decide_eq_false (by omega)
                have qd4 : decide ((n : Int) < 4) = false := decide_eq_false (by omega)
                have qd5 : decide (n < 4) = false := decide_eq_false (by omega)
                clear hn hp2 hn0 hbig h4 hd
                go_enter Try.func27, Try.ntmps27
                go_wp2_with fail
                refine HG.out.mono ?_
                rintro e w' ⟨rfl, rfl⟩
                simp only [getV, castZero]
                go_wp2_with fail
                refine HG2.out.mono ?_
                rintro e w' ⟨rfl, rfl⟩
                simp only [getV, castZero]
                go_wp2_with fail
                go_loopw [0, 90] (fun v i wr => ∃ k : Nat, k ≤ n ∧ i = .int .u64 k ∧ wr.ownsRow B 5 1 v (copyTo out d k).length ((copyTo out d k).map vb) ∧ Below B w wr) (fun _ i _ => n - (intOf i).toNat)
                case atStart => exact ⟨0, Nat.zero_le _, rfl, hown, Below.refl _ _⟩
                case round =>
                  clear hown
                  obtain ⟨k, hk, rfl, hown, hbr⟩ := hrel
                  have hsr := hbr.size
                  obtain ⟨A1, c1, rfl, -⟩ := own_slice hown
                  have hlen := copyTo_len out d k
                  rcases Nat.lt_or_ge k n with hlt | hge
                  · obtain ⟨g, hA, hbg, hlg, hfz, hcl, -⟩ := own_store hown (by omega)
                    cases hA
                    have e := hcl ((copyTo out d k).length - d) (by omega)
                    have HJ : Hid (copyTo out d (k + 1) = copyTo out d k ++ [(copyTo out d k).getD ((copyTo out d k).length - d) 0]) := Lib.hid rfl
                    generalize copyTo out d k = G at hown hlen HJ e
                    have e2 : wr.cell? ⟨g, G.length - d, none⟩ = some (.int .u8 ((G.getD (G.length - d) 0).toNat : Int)) := by
                      refine e.trans ?_
                      rw [List.getElem?_map, List.getElem?_eq_getElem (by omega), List.getD, List.getElem?_eq_getElem (by omega)]; rfl
                    clear e hcl hfz
                    generalize G.getD (G.length - d) 0 = x at HJ e2
                    rw [show G.length - d = out.length + k - d by omega] at e2
                    have hdk : (d : Int) ≤ (out.length : Int) + (k : Int) := by omega
                    go_wp2_with (at_builtin; go_must (refine app1c rowByte rfl _ _ rfl _ B _ _ _ rfl (by exact hown) _ rfl rfl rfl (by omega) (by omega) ?_))
                    intro v2 w2 hown2 hg2
                    have hb2 := hg2.below (e := 5) (n := G.length) (xs := G.map vb) hbr (by rw [← hlen]; exact hown) (by omega)
                    clear hg2 hown hbr e2
                    go_wp2_with fail
                    go_roundw
                    case rel => exact ⟨k + 1, by omega, by go_num, by rw [HJ.out, List.length_append, List.map_append]; first | exact hown2 | (rw [hlen]; exact hown2), hb2⟩
                    case measure => simp [intOf]; omega
                  · obtain rfl : k = n := by omega
                    go_wp2_with fail
                    go_ret3
                    exact ⟨_, rfl, hown, hbr⟩
            · rw [if_pos (by omega)] at hP
              rw [hP]
              clear hP
              have hb : ((e2 : Int) != 0) = true := by simp only [bne_iff_ne, ne_eq]; omega
              go_enter Try.func27, Try.ntmps27
              go_wp2_with fail
              refine HG.out.mono ?_
              rintro e w' ⟨rfl, rfl⟩
              simp only [getV]
              go_wp2_with fail
              refine HG2.out.mono ?_
              rintro e w' ⟨rfl, rfl⟩
              simp only [getV]
              go_wp2_with fail
              go_ret3
              exact partAns_err rfl
  · rw [if_pos (by omega)] at hP
    rw [hP]
    clear hP
    have hb : ((e : Int) != 0) = true := by simp; omega
    go_enter Try.func27, Try.ntmps27
    go_wp2_with (go_at_call 26; go_must (refine HG.out.mono ?_); rintro e w' ⟨rfl, rfl⟩; simp only [getV])
    go_ret3
    exact partAns_err rfl
end Go.Proofs.Ytdjmjmbfaokdaaa
