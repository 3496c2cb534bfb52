/- The walk of the reference's list of distinct words. -/
import Derived.Test.YtpfladolkkhfdaaBloomMk
import Derived.Test.YtpfladolkkhfdaaSegs
import Derived.Sort.Walk0
namespace Go.Proofs.Ytpfladolkkhfdaa
set_option linter.unusedVariables false
open Go.RowKit

theorem infoStr : (Try.prog.info? 9).map (fun i => (i.zero, i.size, i.bytes)) = some (some (.string ByteArray.empty), 1, 16) := by kernel_rfl
theorem rowStr : Row Try.prog 22 9 16 := by
  obtain ⟨i, hi, h1, h2, h3⟩ := info_parts infoStr
  exact ⟨Try.underlying22, i, _, hi, h1, h2, h3, rfl⟩
theorem oneCell_vs (l : List ByteArray) : ∀ u ∈ l.map vs, u.oneCell' = true := by
  intro u hu
  obtain ⟨_, _, rfl⟩ := List.mem_map.1 hu
  rfl

abbrev key (s : ByteArray) : List UInt8 := s.data.toList
/-- The distinct ones of the first k, rising. -/
structure OnceInv (ws : List ByteArray) (k : Nat) (out : List ByteArray) : Prop where
  rise : out.Pairwise (fun a b => key a < key b)
  mem : ∀ l, l ∈ bl out ↔ l ∈ (bl ws).take k
  len : out.length = dn (bl ws) k

theorem key_inj {s t : ByteArray} (h : key s = key t) : s = t := by
  cases s; cases t; simp only [key] at h; congr 1; exact Array.toList_inj.1 h

theorem OnceInv.start (ws : List ByteArray) : OnceInv ws 0 [] := ⟨List.Pairwise.nil, by simp [bl], rfl⟩
theorem OnceInv.same {ws out : List ByteArray} {k : Nat} (h : OnceInv ws k out) (hk : k < ws.length) (hx : ws[k] ∈ out) : OnceInv ws (k + 1) out := by
  have hb : k < (bl ws).length := by simpa [bl] using hk
  have e : (bl ws)[k] = key ws[k] := by simp [bl]
  have hm : key ws[k] ∈ (bl ws).take k := (h.mem _).1 (List.mem_map.2 ⟨_, hx, rfl⟩)
  refine ⟨h.rise, fun l => ?_, ?_⟩
  · rw [List.take_succ_eq_append_getElem hb, List.mem_append, h.mem, e]
    constructor
    · exact .inl
    · rintro (h1 | h1)
      · exact h1
      · rw [List.mem_singleton.1 h1]; exact hm
  · rw [h.len]
    simp only [dn, List.getElem?_eq_getElem hb, e, if_pos hm]
theorem OnceInv.more {ws out : List ByteArray} {k a : Nat} (h : OnceInv ws k out) (hk : k < ws.length) (ha : a ≤ out.length) (hlow : ∀ j (hj : j < out.length), j < a → key out[j] < key ws[k])
    (hat : ∀ hj : a < out.length, ¬ key out[a] < key ws[k] ∧ key out[a] ≠ key ws[k]) : OnceInv ws (k + 1) (out.take a ++ [ws[k]] ++ out.drop a) := by
  have hb : k < (bl ws).length := by simpa [bl] using hk
  have e : (bl ws)[k] = key ws[k] := by simp [bl]
  have hup : ∀ j (hj : j < out.length), a ≤ j → key ws[k] < key out[j] := by
    intro j hj haj
    obtain ⟨h1, h2⟩ := hat (by omega)
    have h3 : key ws[k] < key out[a] := by
      rcases Classical.em (key ws[k] < key out[a]) with h | h
      · exact h
      · exact absurd (List.le_antisymm (List.not_lt.1 h) (List.not_lt.1 h1)) h2
    rcases Nat.lt_or_ge a j with h4 | h4
    · exact List.lt_trans h3 (List.pairwise_iff_getElem.1 h.rise a j (by omega) hj h4)
    · obtain rfl : a = j := by omega
      exact h3
  have hnot : key ws[k] ∉ (bl ws).take k := fun hm => by
    obtain ⟨s, hs, he⟩ := List.mem_map.1 ((h.mem _).2 hm)
    obtain ⟨j, hj, rfl⟩ := List.mem_iff_getElem.1 hs
    rcases Nat.lt_or_ge j a with h1 | h1
    · have := hlow j hj h1
      rw [show key out[j] = key ws[k] from he] at this
      exact List.lt_irrefl _ this
    · have := hup j hj h1
      rw [show key out[j] = key ws[k] from he] at this
      exact List.lt_irrefl _ this
  refine ⟨?_, fun l => ?_, ?_⟩
  · rw [List.append_assoc, List.pairwise_append]
    refine ⟨h.rise.sublist (List.take_sublist _ _), ?_, fun x hx y hy => ?_⟩
    · rw [List.singleton_append, List.pairwise_cons]
      refine ⟨fun y hy => ?_, h.rise.sublist (List.drop_sublist _ _)⟩
      obtain ⟨j, hj, rfl⟩ := List.mem_iff_getElem.1 hy
      rw [List.getElem_drop]
      exact hup _ _ (by omega)
    · obtain ⟨i, hi, rfl⟩ := List.mem_iff_getElem.1 hx
      rw [List.getElem_take]
      simp only [List.length_take] at hi
      have hlo := hlow i (by omega) (by omega)
      rcases List.mem_append.1 hy with hy | hy
      · rw [List.mem_singleton.1 hy]; exact hlo
      · obtain ⟨j, hj, rfl⟩ := List.mem_iff_getElem.1 hy
        rw [List.getElem_drop]
        exact List.lt_trans hlo (hup _ _ (by omega))
  · rw [List.take_succ_eq_append_getElem hb, List.mem_append, e, ← h.mem l]
    have e2 : bl out = bl (out.take a) ++ bl (out.drop a) := by simp only [bl, ← List.map_append, List.take_append_drop]
    rw [e2]
    simp only [bl, List.map_append, List.mem_append, List.map_cons, List.map_nil, List.mem_singleton]
    constructor
    · rintro ((h1 | h1) | h1)
      · exact .inl (.inl h1)
      · exact .inr h1
      · exact .inl (.inr h1)
    · rintro ((h1 | h1) | h1)
      · exact .inl (.inl h1)
      · exact .inr h1
      · exact .inl (.inr h1)
  · have : (out.take a ++ [ws[k]] ++ out.drop a).length = out.length + 1 := by first | (simp; done) | (simp; omega)
    rw [this, h.len]
    simp only [dn, List.getElem?_eq_getElem hb, e, if_neg hnot]

theorem bl_of (s : ByteArray) : s.toList = key s := by rw [Lib.toList_data]

set_option maxHeartbeats 2000000 in
set_option maxRecDepth 100000 in
theorem once_any (ws : List ByteArray) (A : Option Addr) (c : Nat) (w : World) (hr : Reads w w.heap.size A (ws.map vs)) (hl : ws.length ≤ 1000000000) :
    Calls Try.prog 29 #[.slice A ws.length c] w fun e w' => ∃ A' c', e = .returned (.slice A' (dn (bl ws) ws.length) c') ∧ Below w.heap.size w w' := by
  go_enter Try.func29, Try.ntmps29
  go_wp2
  go_loopw [3, 4] (fun v i wr => ∃ (k : Nat) (out : List ByteArray), k ≤ ws.length ∧ i = .int .i64 k ∧ Hid (OnceInv ws k out) ∧ out.length ≤ k ∧ wr.ownsRow w.heap.size 9 1 v out.length (out.map vs) ∧ Below w.heap.size w wr) (fun _ i _ => ws.length - (intOf i).toNat)
  case atStart => exact ⟨0, [], Nat.zero_le _, rfl, Lib.hid (OnceInv.start ws), Nat.le_refl _, World.ownsRow_nil _ _ _ _, Below.refl _ _⟩
  case round =>
    obtain ⟨k, out, hk, rfl, HI, hok, hown, hbr⟩ := hrel
    have hsr := hbr.size
    rcases Nat.lt_or_ge k ws.length with hlt | hge
    · obtain ⟨b, off, rfl, hblt, hc⟩ := hr.at_ (k := k) (by simpa using hlt)
      have d1 : wr.cell? ⟨b, off + k, none⟩ = some (.string ws[k]) := (hbr.cell hblt).trans (hc k _ (by simp [hlt]))
      have D0 := Lib.hid (hc k _ (by simp [hlt]) : w.cell? ⟨b, off + k, none⟩ = some (.string ws[k]))
      have HR := Lib.hid hr
      have HM := Lib.hid (fun a ha h1 h2 => OnceInv.more (a := a) HI.out hlt ha h1 h2)
      have HSM := Lib.hid (fun h => OnceInv.same HI.out hlt h)
      clear hc hr
      generalize ws[k] = x at d1 HM HSM D0
      obtain ⟨A1, c1, rfl, hc1, hc2, -⟩ := own_slice hown
      have hRO := Reads.of_own hown
      have hol : out.length ≤ 9223372036854775807 := by omega
      go_wp2
      go_loopw [5] (fun i wi => ∃ a : Nat, a ≤ out.length ∧ i = .int .i64 a ∧ Hid (∀ j (hj : j < out.length), j < a → key out[j] < key x) ∧ ∃ n, wi = wr.drewN n) (fun i _ => out.length - (intOf i).toNat)
      case atStart => exact ⟨0, Nat.zero_le _, rfl, Lib.hid (fun j _ h => by omega), 0, rfl⟩
      case round =>
        obtain ⟨a, ha, rfl, HA, n, rfl⟩ := hrel
        rcases Nat.lt_or_ge a out.length with hal | hag
        · obtain ⟨b2, off2, rfl, _, hc2'⟩ := hRO.at_ (k := a) (by simpa using hal)
          have d2 : wr.cell? ⟨b2, off2 + a, none⟩ = some (.string out[a]) := hc2' a _ (by simp [hal])
          have ib1 : (a : Int) < (out.length : Int) := by omega
          have ib2 : (k : Int) < (ws.length : Int) := by omega
          obtain ⟨y, hy⟩ : ∃ y, out[a] = y := ⟨_, rfl⟩
          rw [hy] at d2
          have HY := Lib.hid hy
          clear hy hc2'
          cases hq : Op.bytesLess y.toList x.toList with
          | true =>
            have HA2 : Hid (∀ j (hj : j < out.length), j < a + 1 → key out[j] < key x) := Lib.hid (fun j hj h => by
              rcases Nat.lt_or_ge j a with h1 | h1
              · exact HA.out j hj h1
              · obtain rfl : j = a := by omega
                rw [HY.out]
                rw [bytesLess_eq, bl_of, bl_of] at hq
                exact of_decide_eq_true hq)
            go_wp2_with fail
            go_quiet (fail)
            go_wp2_with fail
            go_roundw
            case rel => exact ⟨a + 1, by omega, by go_num, HA2, _, rfl⟩
            case measure => simp [intOf]; omega
          | false =>
            cases hq2 : y.toList == x.toList with
            | true =>
              have hyx : y = x := key_inj (by rw [← bl_of, ← bl_of]; exact eq_of_beq hq2)
              have HI2 := Lib.hid (HSM.out (by rw [← hyx, ← HY.out]; exact List.getElem_mem _))
              clear hyx
              go_wp2_with fail
              go_quiet (fail)
              go_wp2_with fail
              go_quiet (fail)
              go_wp2_with fail
              go_roundw
              case rel => exact ⟨k + 1, out, by omega, by go_num, HI2, by omega, by exact hown, below_drewN hbr⟩
              case measure => simp [intOf]; omega
            | false =>
              have HAT : Hid (∀ hj : a < out.length, ¬ key out[a] < key x ∧ key out[a] ≠ key x) := Lib.hid (fun hj => by
                rw [HY.out]
                rw [bytesLess_eq, bl_of, bl_of] at hq
                rw [bl_of, bl_of] at hq2
                exact ⟨of_decide_eq_false hq, by simpa using hq2⟩)
              go_wp2_with fail
              go_quiet (fail)
              go_wp2_with fail
              go_quiet (fail)
              have HL2 := Lib.hid (HM.out a ha HA.out HAT.out)
              have hlen2 : (out.take a ++ [x] ++ out.drop a).length = out.length + 1 := by first | (simp; done) | (simp; omega)
              have hmin : min a out.length = a := by omega
              clear HA HAT HM HSM
              go_wp2_with (at_builtin; go_must (refine app rowStr rfl _ _ rfl wr.heap.size _ 0 [] rfl (World.ownsRow_nil _ _ _ _) wr.heap.size _ a _ ((out.take a).map vs) rfl (by first | (simp; done) | (simp; omega)) (by have h := hRO.take a; rw [← List.map_take] at h; exact h) (oneCell_vs _) (by omega) (by simp) ?_))
              intro v2 w2 hown2 hg2
              have hb2 : Below wr.heap.size wr w2 := hg2.below (below_drewN (Below.refl _ _)) (World.ownsRow_nil _ _ 9 _) (by simp)
              have hs2 := hb2.size
              have d3 := (hbr.trans (hb2.mono hsr)).cell hblt |>.trans D0.out
              clear hg2
              go_wp2_with (at_builtin; go_must (refine app1b rowStr rfl _ _ rfl _ wr.heap.size _ _ _ rfl (by exact hown2) _ rfl rfl rfl (by omega) hs2 ?_))
              intro v3 w3 hown3 hg3
              have hb3 := hg3.below hb2 hown2 hs2
              have hs3 := hb3.size
              clear hg3 hown2 d3
              go_wp2_with (at_builtin; go_must (refine app rowStr rfl _ _ rfl wr.heap.size _ _ _ rfl (by exact hown3) wr.heap.size _ (out.length - a) _ ((out.drop a).map vs) rfl (by simp) (by have h := (hRO.below hb3).cut (k := a) (cap := c1) (by simpa using hc1); rw [← List.map_drop, if_neg (by omega), Option.map_some, Addr.add_lit] at h; exact h) (oneCell_vs _) (by omega) hs3 ?_))
              intro v4 w4 hown4 hg4
              have hb4 := hg4.below hb3 hown3 hs3
              clear hg4 hown3
              go_wp2_with fail
              go_roundw
              case rel => exact ⟨k + 1, out.take a ++ [x] ++ out.drop a, by omega, by go_num, HL2, by omega, by have h := own_base hown4 hsr; rw [hlen2]; rw [show a + 1 + (out.length - a) = out.length + 1 by omega] at h; simpa using h, hbr.trans (hb4.mono hsr)⟩
              case measure => simp [intOf]; omega
        · obtain rfl : a = out.length := by omega
          have HAT : Hid (∀ hj : out.length < out.length, ¬ key out[out.length] < key x ∧ key out[out.length] ≠ key x) := Lib.hid (fun hj => by omega)
          go_wp2_with fail
          go_quiet (fail)
          go_wp2_with fail
          go_quiet (fail)
          have HL2 := Lib.hid (HM.out out.length ha HA.out HAT.out)
          have hlen2 : (out.take out.length ++ [x] ++ out.drop out.length).length = out.length + 1 := by first | (simp; done) | (simp; omega)
          have hmin : min out.length out.length = out.length := by omega
          clear HA HAT HM HSM
          go_wp2_with (at_builtin; go_must (refine app rowStr rfl _ _ rfl wr.heap.size _ 0 [] rfl (World.ownsRow_nil _ _ _ _) wr.heap.size _ out.length _ ((out.take out.length).map vs) rfl (by first | (simp; done) | (simp; omega)) (by have h := hRO.take out.length; rw [← List.map_take] at h; exact h) (oneCell_vs _) (by omega) (by simp) ?_))
          intro v2 w2 hown2 hg2
          have hb2 : Below wr.heap.size wr w2 := hg2.below (below_drewN (Below.refl _ _)) (World.ownsRow_nil _ _ 9 _) (by simp)
          have hs2 := hb2.size
          have d3 := (hbr.trans (hb2.mono hsr)).cell hblt |>.trans D0.out
          clear hg2
          go_wp2_with (at_builtin; go_must (refine app1b rowStr rfl _ _ rfl _ wr.heap.size _ _ _ rfl (by exact hown2) _ rfl rfl rfl (by omega) hs2 ?_))
          intro v3 w3 hown3 hg3
          have hb3 := hg3.below hb2 hown2 hs2
          have hs3 := hb3.size
          clear hg3 hown2 d3
          go_wp2_with (at_builtin; go_must (refine app rowStr rfl _ _ rfl wr.heap.size _ _ _ rfl (by exact hown3) wr.heap.size _ 0 _ [] rfl rfl Reads.nil_ (by simp) (by omega) hs3 ?_))
          all_goals
            intro v4 w4 hown4 hg4
            have hb4 := hg4.below hb3 hown3 hs3
            clear hg4 hown3
            go_wp2_with fail
            go_roundw
            case rel => exact ⟨k + 1, out.take out.length ++ [x] ++ out.drop out.length, by omega, by go_num, HL2, by omega, by have h := own_base hown4 hsr; rw [hlen2]; simpa using h, hbr.trans (hb4.mono hsr)⟩
            case measure => simp [intOf]; omega
    · obtain rfl : k = ws.length := by omega
      have hlen := HI.out.len
      obtain ⟨A1, c1, rfl, -⟩ := own_slice hown
      rw [hlen]
      clear hlen
      go_wp2
      go_ret
      exact ⟨_, _, rfl, hbr⟩
end Go.Proofs.Ytpfladolkkhfdaa
