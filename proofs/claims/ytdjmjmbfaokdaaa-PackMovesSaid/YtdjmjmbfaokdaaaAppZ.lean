/- 'append(s, make([]byte, m)...)', s nil or a row of the call's own: after the kit's law on a string's bytes, arm for arm. -/
import Derived.Test.YtdjmjmbfaokdaaaLaws
import Derived.Lib.AppendStr
import Derived.Lib.AppendZerosOnto
namespace Go.Proofs.Ytdjmjmbfaokdaaa
set_option linter.unusedVariables false
open Go.RowKit

def zs (m : Nat) : List Value := List.replicate m (Value.int .u8 0)
theorem zs_len (m : Nat) : (zs m).length = m := by simp [zs]
theorem zeroCells_one (m : Nat) : Builtin.zeroCells (Value.int .u8 0).cells m = (zs m).toArray := by
  have := toList_madeCells_one (Value.int .u8 0) m
  apply Array.ext'
  have e : Builtin.zeroCells (Value.int .u8 0).cells m = madeCells #[Value.int .u8 0] m := by
    unfold Builtin.zeroCells madeCells
    simp [Value.cells]
  rw [e, this]
  simp [zs]
theorem zs_vb (m : Nat) : zs m = (List.replicate m (0 : UInt8)).map vb := by simp [zs, vb]
theorem zs_oneCell (m : Nat) : ∀ u ∈ zs m, u.oneCell' = true := by
  intro u hu
  rw [zs] at hu
  obtain rfl := List.eq_of_mem_replicate hu
  rfl

section
variable {P : Program} (w : World)

theorem run_append_room_zeros (t tn ty e : TypeId) (i : TypeInfo) (kq kn : IntKind) (ht : P.underlying t = some (.slice e)) (htn : P.underlying tn = some (.int kn)) (hi : P.info? e = some i) (hz : i.zero = some (.int .u8 0)) (hs1 : i.size = 1) (hb1 : i.bytes = 1)
    (g sLen sCap : Nat) (cur : Array Value) (hg : w.heap[g]? = some (.cells cur e (0, 0))) (m : Nat) (h63 : (m : Int) ≤ 140737488355328)
    (hroom : sLen + m ≤ sCap) (hfit : sLen + m ≤ cur.size) (hm0 : m ≠ 0) :
    (Builtin.append_ #[t, tn] ty #[.slice (some ⟨g, 0, none⟩) sLen sCap, .int kq m]).run P w =
      .ok (.slice (some ⟨g, 0, none⟩) (sLen + m) sCap) (w.setRow g (cur.toList.take sLen ++ zs m ++ cur.toList.drop (sLen + m)).toArray) := by
  have hw : IntKind.i64.wrap (m : Int) = m := by rw [IntKind.wrap_i64]; omega
  have hneg : ¬ ((m : Int) < 0) := by omega
  have h48i : ¬ (281474976710656 < (m : Int)) := by omega
  have hst := run_storeCells_at P g sLen e (zs m) 0 cur w hg (by simpa [zs_len] using hfit) (zs_oneCell m)
  have hzc := zeroCells_one m
  simp only [Value.cells] at hzc
  simp only [Nat.add_zero, zs_len] at hst
  simp [Builtin.append_, run_underlying ht, run_underlying htn, sizeOf, typeInfo, zeroValue, hi, hz, hs1, hb1, asInt, asIntOf, hw, hneg, h48i, hroom, hm0, Value.cells, hzc, Addr.add_lit, hst]

theorem run_append_zero_zeros (t tn ty e : TypeId) (i : TypeInfo) (kq kn : IntKind) (ht : P.underlying t = some (.slice e)) (htn : P.underlying tn = some (.int kn)) (hi : P.info? e = some i) (hz : i.zero = some (.int .u8 0)) (hs1 : i.size = 1) (hb1 : i.bytes = 1)
    (A : Option Addr) (sLen sCap : Nat) (hroom : sLen ≤ sCap) :
    (Builtin.append_ #[t, tn] ty #[.slice A sLen sCap, .int kq 0]).run P w = .ok (.slice A sLen sCap) w := by
  have hw : IntKind.i64.wrap (0 : Int) = 0 := by decide
  rcases A with _ | a
  · simp [Builtin.append_, run_underlying ht, run_underlying htn, sizeOf, typeInfo, zeroValue, hi, hz, hb1, asInt, asIntOf, hw, hroom]
  · simp [Builtin.append_, run_underlying ht, run_underlying htn, sizeOf, typeInfo, zeroValue, hi, hz, hb1, asInt, asIntOf, hw, hroom, storeCells]

theorem run_append_own_zeros (base : Nat) (t tn ty e : TypeId) (i : TypeInfo) (kq kn : IntKind) (ht : P.underlying t = some (.slice e)) (htn : P.underlying tn = some (.int kn)) (hi : P.info? e = some i) (hz : i.zero = some (.int .u8 0))
    (hsize : i.size = 1) (hby : i.bytes = 1)
    (v : Value) (n : Nat) (xs : List Value) (hown : w.ownsRow base e 1 v n xs) (m : Nat) (hbytes : n + m ≤ 70368744177664) (hbase : base ≤ w.heap.size) :
    ∃ v' w', (Builtin.append_ #[t, tn] ty #[v, .int kq m]).run P w = .ok v' w' ∧ w'.ownsRow base e 1 v' (n + m) (xs ++ zs m) ∧ Grew w v w' v' := by
  have h63 : n + m ≤ maxLen := by unfold maxLen; omega
  have hxl : xs.length = n := by simpa using hown.1
  have hlen : (xs ++ zs m).length = (n + m) * 1 := by rw [List.length_append, hxl, zs_len, Nat.mul_one]
  by_cases hm0 : m = 0
  · subst hm0
    refine ⟨v, w, ?_, by simpa [zs] using hown, ⟨World.grownBy.refl w _, .inl rfl⟩⟩
    rcases hown.2 with ⟨rfl, rfl⟩ | ⟨g, cap, cur, rfl, hbg, hg, hnc, hcm, hcs, htake⟩
    · exact run_append_zero_zeros w t tn ty e i kq kn ht htn hi hz hsize hby none 0 0 (Nat.le_refl _)
    · exact run_append_zero_zeros w t tn ty e i kq kn ht htn hi hz hsize hby _ n cap hnc
  have grown : ∀ (old : Nat), old < n + m → ∀ (row : Option Nat),
      (w.drew.alloc (.cells (xs.toArray ++ (zs m).toArray ++ Builtin.zeroCells (Value.int .u8 0).cells (grownCap w (n + m) old e - (n + m))) e)).ownsRow base e 1
        (.slice (some ⟨w.heap.size, 0, none⟩) (n + m) (grownCap w (n + m) old e)) (n + m) (xs ++ zs m) ∧
      w.grownBy (w.drew.alloc (.cells (xs.toArray ++ (zs m).toArray ++ Builtin.zeroCells (Value.int .u8 0).cells (grownCap w (n + m) old e - (n + m))) e)) row := by
    intro old ho row
    have hge := grownCap_ge w (n + m) old e
    have hcm : grownCap w (n + m) old e ≤ maxLen := grownCap_le_maxLen w (n + m) old e h63
    refine ⟨⟨hlen, .inr ⟨w.heap.size, _, _, rfl, hbase, heap_alloc_new w.drew _, hge, hcm, ?_, ?_⟩⟩, ⟨rfl, rfl, rfl, by simp, fun k hk _ => Go.heap_alloc_old w.drew _ hk⟩⟩
    · have hz1 : (Value.int IntKind.u8 0).cells.size = 1 := rfl
      simp only [Array.size_append, List.size_toArray, size_zeroCells, hz1, hxl, zs_len]
      omega
    · simp only [Array.toList_append, List.append_assoc]
      rw [← List.append_assoc, ← hlen]
      exact List.take_left
  have hm48 : m * i.bytes ≤ 281474976710656 := by rw [hby]; omega
  rcases hown.2 with ⟨rfl, rfl⟩ | ⟨g, cap, cur, rfl, hbg, hg, hnc, hcm, hcs, htake⟩
  · have hx : xs = [] := List.eq_nil_of_length_eq_zero hxl
    subst hx
    have hr := Lib.run_append_nil_zeros (P := P) w t tn ty e i (.int .u8 0) kq kn ht htn hi hz m (by omega) (by omega) (by omega) hm48
    have hgr := grown 0 (by omega) (Value.ownBlock (.slice none 0 0))
    rw [zeroCells_one m] at hr
    simp only [Nat.zero_add, List.nil_append, Array.empty_append] at hgr ⊢
    exact ⟨_, _, hr, hgr.1, hgr.2, .inr ⟨_, rfl, Nat.le_refl _⟩⟩
  · by_cases hroom : n + m ≤ cap
    · have hcs' : cur.size = cap := by simpa using hcs
      have hr := run_append_room_zeros (P := P) w t tn ty e i kq kn ht htn hi hz hsize hby g n cap cur hg m (by omega) hroom (by omega) hm0
      refine ⟨_, _, hr, ⟨hlen, .inr ⟨g, cap, _, rfl, hbg, setRow_heap w g cur _ e _ hg, hroom, hcm, ?_, ?_⟩⟩, ⟨⟨rfl, rfl, rfl, by simp, fun k _ hk => setRow_other w g k _ (fun e => hk (by simp [Value.ownBlock, e]))⟩, .inl rfl⟩⟩
      · simp only [List.size_toArray, List.length_append, List.length_take, List.length_drop, Array.length_toList, zs_len]
        omega
      · have ht' : cur.toList.take n = xs := by simpa using htake
        rw [ht', ← hlen]
        exact List.take_left
    · have holds : ∀ j u, xs[j]? = some u → w.cell? ((⟨g, 0, none⟩ : Addr).add j) = some u := hown.cells (g := g) rfl
      have hf := run_firstCells_some (P := P) w.drew i.size n ⟨g, 0, none⟩ n cap xs (by rw [hsize]; simpa using hxl) (by simpa using holds)
      have hr := Lib.run_append_grow_zeros (P := P) w t tn ty e i (.int .u8 0) kq kn ht htn hi hz (some ⟨g, 0, none⟩) n cap xs hf m (by omega) (by omega) (by omega) (by omega) hm48 (by rw [hby]; exact growslice_fits (by omega) (by omega))
      rw [zeroCells_one m] at hr
      have hgr := grown cap (by omega) (Value.ownBlock (.slice (some ⟨g, 0, none⟩) n cap))
      exact ⟨_, _, hr, hgr.1, hgr.2, .inr ⟨_, rfl, Nat.le_refl _⟩⟩
end

/-- The operation, for bytes. -/
theorem appZ {w : World} {ops : Array Oper} {rest : List Oper} {o : Oper} {a : Act} {Q : Exit → Act → World → Prop} (hgd : o.guard = none) (s x : Operand)
    (ho : o.op = .call { callee := .builtin .append, args := #[s, x], argTypes := #[22, 3] })
    (base : Nat) (v : Value) (n : Nat) (xs : List Value) (hs : a.eval s = v) (hown : w.ownsRow base 5 1 v n xs) (m : Nat) (hx : a.eval x = .int .i64 (m : Int)) (hbytes : n + m ≤ 70368744177664) (hbase : base ≤ w.heap.size)
    (h : ∀ v' w', w'.ownsRow base 5 1 v' (n + m) (xs ++ (List.replicate m (0 : UInt8)).map vb) → Grew w v w' v' → wpList Try.prog ops Q rest (a.put o.dst v') w') : wpList Try.prog ops Q (o :: rest) a w := by
  obtain ⟨i, hi, h1, h2, h3⟩ := info_parts infoByte
  obtain ⟨v', w', hr, h4, h5⟩ := run_append_own_zeros (P := Try.prog) w base 22 3 o.type 5 i .i64 .i64 Try.underlying22 Try.underlying3 hi h1 h2 h3 v n xs hown m hbytes hbase
  rw [zs_vb] at h4
  exact Lib.wpList_append_run w hgd s x _ _ ho _ _ hs hx v' w' hr (h v' w' h4 h5)
end Go.Proofs.Ytdjmjmbfaokdaaa
