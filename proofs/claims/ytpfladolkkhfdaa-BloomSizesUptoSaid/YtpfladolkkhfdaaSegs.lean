/- Words for lists of ints and of segments; Same, Gone. -/
import Derived.Test.YtpfladolkkhfdaaTier
import Derived.Deep.QuietTactic
import Derived.BigQuiet
namespace Go.Proofs.Ytpfladolkkhfdaa
set_option linter.unusedVariables false
open Go.RowKit

abbrev vi (x : Int64) : Value := .int .i64 x.toInt
structure Sg where
  id : Int64
  cnt : Int64
  mn : Int64
  mx : Int64
def Sg.cells (s : Sg) : List Value := [vi s.id, vi s.cnt, vi s.mn, vi s.mx]
def segCells (l : List Sg) : List Value := l.flatMap Sg.cells

theorem i64_range (x : Int64) : -9223372036854775808 ≤ x.toInt ∧ x.toInt ≤ 9223372036854775807 := by
  have h1 := Int64.le_toInt x
  have h2 := Int64.toInt_lt x
  omega

theorem segCells_get : ∀ (l : List Sg) (k : Nat) (hk : k < l.length) (f : Nat), f < 4 → (segCells l)[k * 4 + f]? = (l[k].cells)[f]?
  | s :: r, 0, _, f, hf => by
    match f, hf with
    | 0, _ => rfl
    | 1, _ => rfl
    | 2, _ => rfl
    | 3, _ => rfl
  | s :: r, k + 1, hk, f, hf => by
    have h := segCells_get r k (by simpa using hk) f hf
    have e : (k + 1) * 4 + f = 4 + (k * 4 + f) := by omega
    have e2 : segCells (s :: r) = s.cells ++ segCells r := by simp [segCells]
    rw [e, e2, List.getElem?_append_right (by simp [Sg.cells])]
    rw [show 4 + (k * 4 + f) - s.cells.length = k * 4 + f by simp [Sg.cells]]
    simpa using h
theorem segCells_length (l : List Sg) : (segCells l).length = 4 * l.length := by
  induction l with
  | nil => rfl
  | cons s r ih =>
    have e2 : segCells (s :: r) = s.cells ++ segCells r := by simp [segCells]
    rw [e2, List.length_append, ih]; simp [Sg.cells]; omega

/-- The four cells of a segment of a list. -/
theorem seg_at {w : World} {B : Nat} {A : Option Addr} {l : List Sg} (h : Reads w B A (segCells l)) {k : Nat} (hk : k < l.length) :
    ∃ b off, A = some ⟨b, off, none⟩ ∧ b < B ∧ w.cell? ⟨b, off + k * 4, none⟩ = some (vi l[k].id) ∧ w.cell? ⟨b, off + k * 4 + 1, none⟩ = some (vi l[k].cnt) ∧
      w.cell? ⟨b, off + k * 4 + 2, none⟩ = some (vi l[k].mn) ∧ w.cell? ⟨b, off + k * 4 + 3, none⟩ = some (vi l[k].mx) := by
  obtain ⟨b, off, rfl, hb, hc⟩ := h.at_ (k := 0) (by rw [segCells_length]; omega)
  refine ⟨b, off, rfl, hb, ?_, ?_, ?_, ?_⟩
  · exact hc (k * 4 + 0) _ (segCells_get l k hk 0 (by omega))
  · exact hc (k * 4 + 1) _ (segCells_get l k hk 1 (by omega))
  · exact hc (k * 4 + 2) _ (segCells_get l k hk 2 (by omega))
  · exact hc (k * 4 + 3) _ (segCells_get l k hk 3 (by omega))

theorem infoInt : (Try.prog.info? 3).map (fun i => (i.zero, i.size, i.bytes)) = some (some (.int .i64 0), 1, 8) := by kernel_rfl
theorem rowInt : Row Try.prog 37 3 8 := by
  obtain ⟨i, hi, h1, h2, h3⟩ := info_parts infoInt
  exact ⟨Try.underlying37, i, _, hi, h1, h2, h3, rfl⟩
theorem oneCell_vi (l : List Int) : ∀ u ∈ l.map (Value.int .i64), u.oneCell' = true := by
  intro u hu
  obtain ⟨_, _, rfl⟩ := List.mem_map.1 hu
  rfl

/-- 'app1', the block's number a letter. -/
theorem app1b {P : Program} {w : World} {t e : TypeId} {bytes : Nat} (R : Row P t e bytes) {ops : Array Oper} {rest : List Oper} {o : Oper} {a : Act} {Q : Exit → Act → World → Prop} (hgd : o.guard = none) (s x : Operand)
    (ho : o.op = .call { callee := .builtin .append, args := #[s, x], argTypes := #[t, t] }) (u : Value)
    (base : Nat) (v : Value) (n : Nat) (xs : List Value) (hs : a.eval s = v) (hown : w.ownsRow base e 1 v n xs) (b : Nat)
    (hx : a.eval x = .slice (some ⟨b, 0, none⟩) 1 1) (hb : b = w.heap.size) (h1 : u.oneCell' = true)
    (hbytes : (n + 1) * (bytes + 1) ≤ 140737488355328) (hbase : base ≤ w.heap.size)
    (h : ∀ v' w', w'.ownsRow base e 1 v' (n + 1) (xs ++ [u]) → Grew w v w' v' → wpList P ops Q rest (a.put o.dst v') w') : wpList P ops Q (o :: rest) a (w.alloc (.cells #[u] e)) := by
  subst hb
  exact app1 R hgd s x ho u base v n xs hs hown hx h1 hbytes hbase h

/-- The places of those whose records are all too old. -/
def goneTo (l : List Sg) (mark : Int) : Nat → List Int
  | 0 => []
  | k + 1 => goneTo l mark k ++ (match l[k]? with | some s => if s.mx.toInt < mark then [(k : Int)] else [] | none => [])
def gone (l : List Sg) (mark : Int) : List Int := goneTo l mark l.length
theorem goneTo_len (l : List Sg) (mark : Int) : ∀ k, (goneTo l mark k).length ≤ k
  | 0 => by simp [goneTo]
  | k + 1 => by
    have := goneTo_len l mark k
    simp only [goneTo, List.length_append]
    split
    · split <;> simp <;> omega
    · simp; omega

set_option maxRecDepth 100000 in
theorem gone_any (l : List Sg) (A : Option Addr) (c : Nat) (mark : Int) (w : World) (hr : Reads w w.heap.size A (segCells l)) (hl : l.length ≤ 7000000000000) :
    Calls Try.prog 26 #[.slice A l.length c, .int .i64 mark] w fun e w' => ∃ v, e = .returned v ∧ w'.ownsRow w.heap.size 3 1 v (gone l mark).length ((gone l mark).map (Value.int .i64)) ∧ Below w.heap.size w w' := by
  go_enter Try.func26, Try.ntmps26
  go_wp2
  go_loopw [5, 10] (fun v i wr => ∃ k : Nat, k ≤ l.length ∧ i = .int .i64 k ∧ wr.ownsRow w.heap.size 3 1 v (goneTo l mark k).length ((goneTo l mark k).map (Value.int .i64)) ∧ Below w.heap.size w wr) (fun _ i _ => l.length - (intOf i).toNat)
  case atStart => exact ⟨0, Nat.zero_le _, rfl, World.ownsRow_nil _ _ _ _, Below.refl _ _⟩
  case round =>
    obtain ⟨k, hk, rfl, hown, hbr⟩ := hrel
    have hsr := hbr.size
    rcases Nat.lt_or_ge k l.length with hlt | hge
    · obtain ⟨b, off, rfl, _, c0, c1, c2, c3⟩ := seg_at (hr.below hbr) hlt
      have hlen := goneTo_len l mark k
      have HT : Hid (goneTo l mark (k + 1) = goneTo l mark k ++ if l[k].mx.toInt < mark then [(k : Int)] else []) := Lib.hid (by simp [goneTo, hlt])
      clear hr
      generalize l[k] = s at c0 c1 c2 c3 HT
      obtain ⟨s0, s1, s2, s3⟩ := s
      simp only [vi] at c0 c1 c2 c3 HT
      generalize s0.toInt = i0 at c0
      generalize s1.toInt = i1 at c1
      generalize s2.toInt = i2 at c2
      generalize s3.toInt = i3 at c3 HT
      by_cases hm : i3 < mark
      · rw [if_pos hm] at HT
        go_wp2_with (at_builtin; go_must (refine app1b rowInt rfl _ _ rfl _ w.heap.size _ _ _ rfl (by exact hown.alloc _) _ rfl (by simp) rfl (by omega) (by simp; omega) ?_))
        intro v2 w2 hown2 hg2
        have hb2 := hg2.of_alloc.below hbr hown hsr
        clear hg2 hown hbr c0 c1 c2 c3
        go_wp2_with fail
        go_roundw
        case rel => exact ⟨k + 1, by omega, by go_num, by rw [HT.out, List.map_append, List.length_append]; exact hown2, hb2⟩
        case measure => simp [intOf]; omega
      · rw [if_neg hm, List.append_nil] at HT
        go_wp2_with fail
        go_roundw
        case rel => exact ⟨k + 1, by omega, by go_num, by rw [HT.out]; exact hown.alloc _, hbr.alloc hsr _⟩
        case measure => simp [intOf]; omega
    · obtain rfl : k = l.length := by omega
      go_wp2_with fail
      go_ret
      exact ⟨_, rfl, hown, hbr⟩

set_option maxRecDepth 100000 in
theorem refGone_any (l : List Sg) (A : Option Addr) (c : Nat) (mark : Int) (w : World) (hr : Reads w w.heap.size A (segCells l)) (hl : l.length ≤ 7000000000000) :
    Calls Try.prog 27 #[.slice A l.length c, .int .i64 mark] w fun e w' => ∃ v, e = .returned v ∧ w'.ownsRow w.heap.size 3 1 v (gone l mark).length ((gone l mark).map (Value.int .i64)) ∧ Below w.heap.size w w' := by
  go_enter Try.func27, Try.ntmps27
  go_wp2
  go_loopw [5, 6] (fun v i wr => ∃ k : Nat, k ≤ l.length ∧ i = .int .i64 k ∧ wr.ownsRow w.heap.size 3 1 v (goneTo l mark k).length ((goneTo l mark k).map (Value.int .i64)) ∧ Below w.heap.size w wr) (fun _ i _ => l.length - (intOf i).toNat)
  case atStart => exact ⟨0, Nat.zero_le _, rfl, World.ownsRow_nil _ _ _ _, Below.refl _ _⟩
  case round =>
    obtain ⟨k, hk, rfl, hown, hbr⟩ := hrel
    have hsr := hbr.size
    rcases Nat.lt_or_ge k l.length with hlt | hge
    · obtain ⟨b, off, rfl, _, c0, c1, c2, c3⟩ := seg_at (hr.below hbr) hlt
      have hlen := goneTo_len l mark k
      have HT : Hid (goneTo l mark (k + 1) = goneTo l mark k ++ if l[k].mx.toInt < mark then [(k : Int)] else []) := Lib.hid (by simp [goneTo, hlt])
      clear hr c0 c1 c2
      generalize l[k] = s at c3 HT
      obtain ⟨s0, s1, s2, s3⟩ := s
      simp only [vi] at c3 HT
      generalize s3.toInt = i3 at c3 HT
      by_cases hm : i3 < mark
      · rw [if_pos hm] at HT
        go_wp2_with (at_builtin; go_must (refine app1b rowInt rfl _ _ rfl _ w.heap.size _ _ _ rfl (by exact hown) _ rfl rfl rfl (by omega) hsr ?_))
        intro v2 w2 hown2 hg2
        have hb2 := hg2.below hbr hown hsr
        clear hg2 hown hbr c3
        go_wp2_with fail
        go_roundw
        case rel => exact ⟨k + 1, by omega, by go_num, by rw [HT.out, List.map_append, List.length_append]; exact hown2, hb2⟩
        case measure => simp [intOf]; omega
      · rw [if_neg hm, List.append_nil] at HT
        go_wp2_with fail
        go_roundw
        case rel => exact ⟨k + 1, by omega, by go_num, by rw [HT.out]; exact hown, hbr⟩
        case measure => simp [intOf]; omega
    · obtain rfl : k = l.length := by omega
      go_wp2_with fail
      go_ret
      exact ⟨_, rfl, hown, hbr⟩

theorem decide_ne_len {l m : List Int} (h : l.length ≠ m.length) : decide (l = m) = false := decide_eq_false fun e => h (by rw [e])

set_option maxRecDepth 100000 in
/-- Same of two lists of ints. -/
theorem same_any (l m : List Int) (A A' : Option Addr) (c c' : Nat) (w : World) (B : Nat) (hr : Reads w B A (l.map (Value.int .i64))) (hr' : Reads w B A' (m.map (Value.int .i64))) (hl : l.length ≤ 9223372036854775807) (hl' : m.length ≤ 9223372036854775807) :
    Calls Try.prog 23 #[.slice A l.length c, .slice A' m.length c'] w fun e w' => e = .returned (.bool (decide (l = m))) ∧ ∃ n, w' = w.drewN n := by
  by_cases hlen : l.length = m.length
  · have h1 : ((l.length : Int) != (m.length : Int)) = false := by simp; omega
    have HL := Lib.hid hlen
    clear hlen
    go_enter Try.func23, Try.ntmps23
    go_wp2
    go_loopw [5] (fun i wr => ∃ k : Nat, k ≤ l.length ∧ i = .int .i64 k ∧ (∃ n, wr = w.drewN n) ∧ Hid (l.take k = m.take k)) (fun i _ => l.length - (intOf i).toNat)
    case atStart => exact ⟨0, Nat.zero_le _, rfl, ⟨0, rfl⟩, Lib.hid rfl⟩
    case round =>
      obtain ⟨k, hk, rfl, ⟨n, rfl⟩, HT⟩ := hrel
      rcases Nat.lt_or_ge k l.length with hlt | hge
      · have hlt' : k < m.length := by have := HL.out; omega
        obtain ⟨b, off, rfl, _, hc⟩ := hr.at_ (k := k) (by simpa using hlt)
        obtain ⟨b', off', rfl, _, hc'⟩ := hr'.at_ (k := k) (by simpa using hlt')
        have d1 : w.cell? ⟨b, off + k, none⟩ = some (.int .i64 l[k]) := hc k _ (by simp [hlt])
        have d2 : w.cell? ⟨b', off' + k, none⟩ = some (.int .i64 m[k]) := hc' k _ (by simp [hlt'])
        have HT2 : Hid (l[k] = m[k] → l.take (k + 1) = m.take (k + 1)) := Lib.hid (fun h => by rw [List.take_succ_eq_append_getElem hlt, List.take_succ_eq_append_getElem hlt', HT.out, h])
        have HN : Hid (l[k] ≠ m[k] → decide (l = m) = false) := Lib.hid (fun h => decide_eq_false (by rintro rfl; exact h rfl))
        clear hc hc' hr hr'
        generalize l[k] = x at d1 HT2 HN
        generalize m[k] = y at d2 HT2 HN
        by_cases hxy : x = y
        · subst hxy
          have hb : (x != x) = false := by simp
          have HT3 := Lib.hid (HT2.out rfl)
          clear HT2 HN
          go_wp2_with fail
          go_quiet (fail)
          go_wp2_with fail
          go_roundw
          case rel => exact ⟨k + 1, by omega, by go_num, ⟨_, rfl⟩, HT3⟩
          case measure => simp [intOf]; omega
        · have hb : (x != y) = true := by simpa using hxy
          have HN2 := Lib.hid (HN.out hxy)
          clear HT2 HN hxy
          go_wp2_with fail
          go_quiet (fail)
          go_wp2_with fail
          go_ret
          exact ⟨by rw [HN2.out]; rfl, n + nq, by simp⟩
      · obtain rfl : k = l.length := by omega
        have he : decide (l = m) = true := decide_eq_true (by have := HT.out; rwa [List.take_length, HL.out, List.take_length] at this)
        have HE := Lib.hid he
        clear he
        go_wp2_with fail
        go_ret
        exact ⟨by rw [HE.out]; rfl, _, rfl⟩
  · have h1 : ((l.length : Int) != (m.length : Int)) = true := by simp; omega
    have HE := Lib.hid (decide_ne_len hlen)
    clear hlen
    go_enter Try.func23, Try.ntmps23
    go_wp2
    go_ret
    exact ⟨by rw [HE.out]; rfl, 0, rfl⟩
end Go.Proofs.Ytpfladolkkhfdaa
