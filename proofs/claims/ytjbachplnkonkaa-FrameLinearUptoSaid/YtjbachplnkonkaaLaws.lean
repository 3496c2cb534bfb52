/- Laws on append for the walk, in this claim's own words. -/
import Derived.Test.YtjbachplnkonkaaWords
namespace Go.Proofs.Ytjbachplnkonkaa
set_option linter.unusedVariables false
open Go.RowKit

/-- A slice type t of one-cell elements e of so many bytes. -/
structure Row (P : Program) (t e : TypeId) (bytes : Nat) : Prop where
  und : P.underlying t = some (.slice e)
  info : ∃ i z, P.info? e = some i ∧ i.zero = some z ∧ i.size = 1 ∧ i.bytes = bytes ∧ z.cells.size = 1

/-- w' is w with v's own row written or a new one made, which is v''s. -/
structure Grew (w : World) (v : Value) (w' : World) (v' : Value) : Prop where
  by_ : w.grownBy w' v.ownBlock
  at_ : v'.ownBlock = v.ownBlock ∨ ∃ k, v'.ownBlock = some k ∧ w.heap.size ≤ k

theorem Grew.below {w0 w w' : World} {v v' : Value} {B : Nat} {e : TypeId} {n : Nat} {xs : List Value} (h : Grew w v w' v') (hb : Below B w0 w) (hown : w.ownsRow B e 1 v n xs) (hB : B ≤ w.heap.size) : Below B w0 w' :=
  hb.grown h.by_ hB (fun k hk => (hown.lt k hk).1)

section
variable {P : Program} {w : World}

theorem run_append_of_nil (base : Nat) (t ty e : TypeId) (i : TypeInfo) (size : Nat) (ht : P.underlying t = some (.slice e)) (hi : P.info? e = some i)
    (v : Value) (n : Nat) (xs : List Value) (hown : w.ownsRow base e size v n xs) (c : Nat) : (Builtin.append_ #[t, t] ty #[v, .slice none 0 c]).run P w = .ok v w := by
  rcases hown.2 with ⟨rfl, rfl⟩ | ⟨g, cap, cur, rfl, _, _, hnc, _⟩
  · simp [Builtin.append_, run_underlying ht, sizeOf, typeInfo, hi, Builtin.lenOf, Builtin.firstCells]
  · simp [Builtin.append_, run_underlying ht, sizeOf, typeInfo, hi, Builtin.lenOf, Builtin.firstCells, hnc, storeCells]

theorem run_app {t e : TypeId} {bytes : Nat} (R : Row P t e bytes) (ty : TypeId) (base : Nat)
    (v : Value) (n : Nat) (xs : List Value) (hown : w.ownsRow base e 1 v n xs)
    (B : Nat) (A : Option Addr) (m c : Nat) (news : List Value) (hm : news.length = m) (hr : Reads w B A news) (h1 : ∀ u ∈ news, u.oneCell' = true)
    (hbytes : (n + m) * (bytes + 1) ≤ 140737488355328) (hbase : base ≤ w.heap.size) :
    ∃ v' w', (Builtin.append_ #[t, t] ty #[v, .slice A m c]).run P w = .ok v' w' ∧ w'.ownsRow base e 1 v' (n + m) (xs ++ news) ∧ Grew w v w' v' := by
  obtain ⟨i, z, hi, hz, hs, hb, hc⟩ := R.info
  have hlen : n + m ≤ 140737488355328 := Nat.le_trans (Nat.le_mul_of_pos_right _ (by omega)) hbytes
  have h63 : n + m ≤ maxLen := by unfold maxLen; omega
  have hby : (n + m) * bytes ≤ 140737488355328 := Nat.le_trans (Nat.mul_le_mul_left _ (by omega)) hbytes
  rcases A with _ | ad
  · have hnews : news = [] := by
      cases news with
      | nil => rfl
      | cons a r =>
        obtain ⟨_, _, h, _⟩ := hr (by simp)
        cases h
    subst hnews
    simp only [List.length_nil] at hm
    subst hm
    exact ⟨v, w, run_append_of_nil base t ty e i 1 R.und hi v n xs hown c, by simpa using hown, ⟨World.grownBy.refl w _, .inl rfl⟩⟩
  · have hcells : ∀ j u, news[j]? = some u → w.cell? (ad.add j) = some u := by
      intro j u hu
      have hne : news ≠ [] := by rintro rfl; simp at hu
      obtain ⟨b, off, h, _, hcl⟩ := hr hne
      injection h with h
      subst h
      rw [Addr.add_lit]
      exact hcl j u hu
    obtain ⟨v', w', hrun, h2, h3, _, h5⟩ := run_append_own_at (P := P) w base t ty e i z 1 bytes R.und hi hz hs hb hc (by omega) v n xs hown ad m c news (by omega) hcells h1 h63 hby hbase
    refine ⟨v', w', hrun, h2, h3, ?_⟩
    rcases h5 with h5 | h5
    · exact .inl h5
    · exact .inr ⟨_, h5, Nat.le_refl _⟩

theorem wp_app {t e : TypeId} {bytes : Nat} (R : Row P t e bytes) {o : Oper} {a : Act} {K : Act → World → Prop} {Q : Exit → Act → World → Prop} (s x : Operand)
    (ho : o.op = .call { callee := .builtin .append, args := #[s, x], argTypes := #[t, t] })
    (base : Nat) (v : Value) (n : Nat) (xs : List Value) (hs : a.eval s = v) (hown : w.ownsRow base e 1 v n xs)
    (B : Nat) (A : Option Addr) (m c : Nat) (news : List Value) (hx : a.eval x = .slice A m c) (hm : news.length = m) (hr : Reads w B A news) (h1 : ∀ u ∈ news, u.oneCell' = true)
    (hbytes : (n + m) * (bytes + 1) ≤ 140737488355328) (hbase : base ≤ w.heap.size)
    (h : ∀ v' w', w'.ownsRow base e 1 v' (n + m) (xs ++ news) → Grew w v w' v' → K (a.put o.dst v') w') : o.wp P a w K Q := by
  obtain ⟨v', w', hrun, h2, h3⟩ := run_app R o.type base v n xs hown B A m c news hm hr h1 hbytes hbase
  unfold Oper.wp execOp
  simp only [ho, resolve, invoke, builtin, Sem.run_bind, Sem.run_pure, Result.andThen_ok, List.map_toArray, List.map_cons, List.map_nil, hs, hx, hrun]
  exact h v' w' h2 h3

/-- 'append(s, x...)', s nil or the call's own, x any slice that reads as a list. -/
theorem app {t e : TypeId} {bytes : Nat} (R : Row P t e bytes) {ops : Array Oper} {rest : List Oper} {o : Oper} {a : Act} {Q : Exit → Act → World → Prop} (hgd : o.guard = none) (s x : Operand)
    (ho : o.op = .call { callee := .builtin .append, args := #[s, x], argTypes := #[t, t] })
    (base : Nat) (v : Value) (n : Nat) (xs : List Value) (hs : a.eval s = v) (hown : w.ownsRow base e 1 v n xs)
    (B : Nat) (A : Option Addr) (m c : Nat) (news : List Value) (hx : a.eval x = .slice A m c) (hm : news.length = m) (hr : Reads w B A news) (h1 : ∀ u ∈ news, u.oneCell' = true)
    (hbytes : (n + m) * (bytes + 1) ≤ 140737488355328) (hbase : base ≤ w.heap.size)
    (h : ∀ v' w', w'.ownsRow base e 1 v' (n + m) (xs ++ news) → Grew w v w' v' → wpList P ops Q rest (a.put o.dst v') w') : wpList P ops Q (o :: rest) a w :=
  wpList_plain hgd fun _ hK => wp_app R s x ho base v n xs hs hown B A m c news hx hm hr h1 hbytes hbase fun v' w' h2 h3 => hK _ _ (h v' w' h2 h3)

theorem Grew.of_alloc {o : Obj} {v : Value} {w' : World} {v' : Value} (h : Grew (w.alloc o) v w' v') : Grew w v w' v' := by
  refine ⟨(World.grownBy_alloc w o _).trans h.by_, ?_⟩
  rcases h.at_ with h1 | ⟨k, h1, h2⟩
  · exact .inl h1
  · exact .inr ⟨k, h1, by simp at h2; omega⟩

/-- 'append(s, u)': the one value lies in a new block. -/
theorem app1 {t e : TypeId} {bytes : Nat} (R : Row P t e bytes) {ops : Array Oper} {rest : List Oper} {o : Oper} {a : Act} {Q : Exit → Act → World → Prop} (hgd : o.guard = none) (s x : Operand)
    (ho : o.op = .call { callee := .builtin .append, args := #[s, x], argTypes := #[t, t] }) (u : Value)
    (base : Nat) (v : Value) (n : Nat) (xs : List Value) (hs : a.eval s = v) (hown : w.ownsRow base e 1 v n xs)
    (hx : a.eval x = .slice (some ⟨w.heap.size, 0, none⟩) 1 1) (h1 : u.oneCell' = true)
    (hbytes : (n + 1) * (bytes + 1) ≤ 140737488355328) (hbase : base ≤ w.heap.size)
    (h : ∀ v' w', w'.ownsRow base e 1 v' (n + 1) (xs ++ [u]) → Grew w v w' v' → wpList P ops Q rest (a.put o.dst v') w') : wpList P ops Q (o :: rest) a (w.alloc (.cells #[u] e)) :=
  app R hgd s x ho base v n xs hs (hown.alloc _) (w.heap.size + 1) (some ⟨w.heap.size, 0, none⟩) 1 1 [u] hx rfl
    (fun _ => ⟨_, _, rfl, by omega, fun j u' hu => by have := cell_one_new w u e j u' hu; rwa [Addr.add_lit] at this⟩) (by simpa using h1) hbytes (by simp; omega)
    fun v' w' h2 h3 => h v' w' h2 h3.of_alloc
end

/-- What is owned stays owned behind a call that leaves all that was there. -/
theorem own_past {w w' : World} {base : Nat} {e : TypeId} {size : Nat} {v : Value} {n : Nat} {xs : List Value} (h : w.ownsRow base e size v n xs) {B : Nat} (hb : Below B w w') (hB : w.heap.size ≤ B) : w'.ownsRow base e size v n xs :=
  h.kept (row := none) ⟨hb.os, hb.tape, hb.output, hb.size, fun k hk _ => hb.block k (by omega)⟩ (by
    cases hv : v.ownBlock with
    | none => exact .inl rfl
    | some k => exact .inr (by simp))

theorem own_base {w : World} {base base' : Nat} {e : TypeId} {s : Nat} {v : Value} {n : Nat} {xs : List Value} (h : w.ownsRow base e s v n xs) (hb : base' ≤ base) : w.ownsRow base' e s v n xs := by
  refine ⟨h.1, ?_⟩
  rcases h.2 with h1 | ⟨g, cap, cur, h1, h2, h3⟩
  · exact .inl h1
  · exact .inr ⟨g, cap, cur, h1, by omega, h3⟩

/-- Of two rows the one that was made behind the other lies elsewhere. -/
theorem own_apart {w w' : World} {base base' : Nat} {e e' : TypeId} {s s' : Nat} {v v' : Value} {n n' : Nat} {xs xs' : List Value} (h : w.ownsRow base e s v n xs) (h' : w'.ownsRow base' e' s' v' n' xs') (hb : w.heap.size ≤ base') :
    (v'.ownBlock = none ∨ v'.ownBlock ≠ v.ownBlock) ∧ (v.ownBlock = none ∨ v.ownBlock ≠ v'.ownBlock) := by
  have h1 := h.lt
  have h2 := h'.lt
  cases hv : v.ownBlock with
  | none =>
    refine ⟨?_, .inl rfl⟩
    cases hv' : v'.ownBlock with
    | none => exact .inl rfl
    | some k' => exact .inr (by simp)
  | some k =>
    have h3 := h1 k hv
    cases hv' : v'.ownBlock with
    | none => exact ⟨.inl rfl, .inr (by simp)⟩
    | some k' =>
      have h4 := h2 k' hv'
      exact ⟨.inr (by simp; omega), .inr (by simp; omega)⟩

theorem grown_of_below {w w' : World} {B : Nat} (hb : Below B w w') (h : w.heap.size ≤ B) (row : Option Nat) : w.grownBy w' row :=
  ⟨hb.os, hb.tape, hb.output, hb.size, fun k hk _ => hb.block k (by omega)⟩

/-- A store into a row of the call's own, its address as the walk has it. -/
theorem own_store {w : World} {base : Nat} {e : TypeId} {A : Option Addr} {n c : Nat} {xs : List Value} (h : w.ownsRow base e 1 (.slice A n c) n xs) (hn : 0 < n) :
    ∃ g, A = some ⟨g, 0, none⟩ ∧ base ≤ g ∧ g < w.heap.size ∧ (∀ j, w.frozen? ⟨g, j, none⟩ = false) ∧ (∀ j, j < n → w.cell? ⟨g, j, none⟩ = xs[j]?) ∧
      ∀ j u, (w.setCell ⟨g, j, none⟩ u).ownsRow base e 1 (.slice A n c) n (xs.set j u) ∧ w.grownBy (w.setCell ⟨g, j, none⟩ u) (some g) := by
  obtain ⟨g, cap, hv, hb, hlt⟩ := h.form hn
  have hA : A = some ⟨g, 0, none⟩ := by injection hv
  subst hA
  exact ⟨g, rfl, hb, hlt, fun j => h.frozenAt j, fun j hj => h.cellAt j (by omega), fun j u => h.stored j u⟩

theorem infoByte : (Try.prog.info? 5).map (fun i => (i.zero, i.size, i.bytes)) = some (some (.int .u8 0), 1, 1) := by kernel_rfl
theorem rowByte : Row Try.prog 24 5 1 := by
  obtain ⟨i, hi, h1, h2, h3⟩ := info_parts infoByte
  exact ⟨Try.underlying24, i, _, hi, h1, h2, h3, rfl⟩
theorem infoNum : (Try.prog.info? 29).map (fun i => (i.zero, i.size, i.bytes)) = some (some (.int .u64 0), 1, 8) := by kernel_rfl
theorem rowNum : Row Try.prog 22 29 8 := by
  obtain ⟨i, hi, h1, h2, h3⟩ := info_parts infoNum
  exact ⟨Try.underlying22, i, _, hi, h1, h2, h3, rfl⟩

/-- string(b), b a slice of bytes that reads as a list. -/
theorem run_str {w : World} {B : Nat} {A : Option Addr} {l : List UInt8} (hr : Reads w B A (l.map vb)) {n c : Nat} (hn : l.length = n) :
    (convert 24 9 (.slice A n c)).run Try.prog w = .ok (.string ⟨l.toArray⟩) w := by
  subst hn
  have hu : ∀ l : List UInt8, (strOfNums (l.map fun c => (c.toNat : Int))) = ⟨l.toArray⟩ := fun l => by
    unfold strOfNums
    rw [List.map_map]
    congr 1
    congr 1
    conv => rhs; rw [← List.map_id l]
    refine List.map_congr_left fun a _ => ?_
    simp
  rcases A with _ | ad
  · have hl : l = [] := by
      cases l with
      | nil => rfl
      | cons a r =>
        obtain ⟨_, _, h, _⟩ := hr (by simp)
        cases h
    subst hl
    exact run_convert_bytes_nil w _ _ Try.underlying24 Try.underlying5 _ _ _ Try.underlying9
  · by_cases hl : l = []
    · subst hl
      rw [run_convert_bytes_string w _ _ _ (some ad) _ c Try.underlying24 Try.underlying5 Try.underlying9]
      have := run_bytesToString (P := Try.prog) w ad 0 c [] (by simp [loadCells, loadCellsFrom])
      exact this.trans rfl
    · obtain ⟨b, off, h, _, hc⟩ := hr (by simpa using hl)
      injection h with h
      subst h
      have := run_convert_bytes_arg (P := Try.prog) w 24 5 Try.underlying24 Try.underlying5 b off l.length c (l.map fun c => (c.toNat : Int)) (by simp) (fun i hi => by
        refine hc i _ ?_
        simp [List.getD, List.getElem?_eq_getElem hi]) _ Try.underlying9
      rw [hu] at this
      exact this

/-- Two strings out of lists of bytes. -/
theorem toList_mk (l : List UInt8) : (⟨l.toArray⟩ : ByteArray).toList = l := by simp

end Go.Proofs.Ytjbachplnkonkaa
