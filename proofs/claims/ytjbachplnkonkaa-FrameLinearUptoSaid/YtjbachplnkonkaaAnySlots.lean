/- Behind XAny: the invariant in slots: what each operation's slot holds, until its reader has run. -/
import Derived.Test.YtjbachplnkonkaaAny
namespace Go.Proofs.Ytjbachplnkonkaa
set_option linter.unusedVariables false
open Go.RowKit

/-- What a slot is known to hold, by kind: 0: a value; 1: a slice made here, until an operation has run; 2: a row of the call's own, until then; 3: a slice of one that holds such a row. -/
structure Knows where
  kind : Nat
  val : Value
  till : Nat
  num : Nat
  elem : TypeId
  xs : List Value
def Knows.eq (v : Value) : Knows := ⟨0, v, 0, 0, 0, []⟩
def Knows.cells (k n : Nat) (xs : List Value) : Knows := ⟨1, .tuple #[], k, n, 0, xs⟩
def Knows.row (k : Nat) (e : TypeId) (n : Nat) (xs : List Value) : Knows := ⟨2, .tuple #[], k, n, e, xs⟩
def Knows.boxed (k : Nat) (e : TypeId) (n : Nat) (xs : List Value) : Knows := ⟨3, .tuple #[], k, n, e, xs⟩

def Knows.holds (B : Nat) (L : Nat → Bool) (v : Value) (w : World) (kn : Knows) : Prop :=
  match kn.kind with
  | 0 => v = kn.val
  | 1 => L kn.till = true ∨ ∃ g, v = .slice (some ⟨g, 0, none⟩) kn.num kn.num ∧ g < w.heap.size ∧ ∀ j u, kn.xs[j]? = some u → w.cell? ⟨g, j, none⟩ = some u
  | 2 => L kn.till = true ∨ w.ownsRow B kn.elem 1 v kn.num kn.xs
  | _ => L kn.till = true ∨ ∃ g u, v = .slice (some ⟨g, 0, none⟩) 1 1 ∧ g < w.heap.size ∧ w.cell? ⟨g, 0, none⟩ = some u ∧ w.ownsRow B kn.elem 1 u kn.num kn.xs

theorem or_map {a b c d : Prop} (h : a ∨ b) (f : a → c) (g : b → d) : c ∨ d := by
  rcases h with h | h
  · exact .inl (f h)
  · exact .inr (g h)
theorem ran_old {L : Nat → Bool} {i j : Nat} (h : L j = true) : ran L i j = true := by unfold ran; split <;> simp [h]
theorem ran_self {L : Nat → Bool} {i : Nat} : ran L i i = true := by unfold ran; rw [if_pos rfl]

theorem Knows.holds.same {B : Nat} {L : Nat → Bool} {v : Value} {w : World} {kn : Knows} (i : Nat) (h : kn.holds B L v w) : kn.holds B (ran L i) v w := by
  obtain ⟨kd, u, k, n, e, xs⟩ := kn
  match kd, h with
  | 0, h => exact h
  | 1, h => exact or_map h ran_old id
  | 2, h => exact or_map h ran_old id
  | m + 3, h => exact or_map h ran_old id
theorem Knows.holds.alloc {B : Nat} {L : Nat → Bool} {v : Value} {w : World} {kn : Knows} (i : Nat) (o : Obj) (h : kn.holds B L v w) : kn.holds B (ran L i) v (w.alloc o) := by
  obtain ⟨kd, u, k, n, e, xs⟩ := kn
  match kd, h with
  | 0, h => exact h
  | 1, h =>
    refine or_map h ran_old ?_
    rintro ⟨g, h1, h2, h3⟩
    exact ⟨g, h1, by simp; omega, fun j u hu => by rw [World.cell?_alloc_lt w o _ h2]; exact h3 j u hu⟩
  | 2, h => exact or_map h ran_old fun h => h.alloc _
  | m + 3, h =>
    refine or_map h ran_old ?_
    rintro ⟨g, u, h1, h2, h3, h4⟩
    exact ⟨g, u, h1, by simp; omega, by rw [World.cell?_alloc_lt w o _ h2]; exact h3, h4.alloc _⟩

def dstOf (ops : Array Oper) (j : Nat) : Option Tmp := (ops[j]?).bind (·.dst)

structure Inv (ops : Array Oper) (T : List Knows) (B : Nat) (a0 : Act) (w0 : World) (L : Nat → Bool) (a : Act) (w : World) : Prop where
  defers : a.defers = a0.defers
  size : a.tmps.size = a0.tmps.size
  base : ∀ t, some t ∉ ops.toList.map (·.dst) → a.tmps[t]? = a0.tmps[t]?
  below : Below B w0 w
  slots : ∀ j d kn, L j = true → dstOf ops j = some d → T[j]? = some kn → kn.holds B L (a.eval (.tmp d)) w

section
variable {P : Program} {ops : Array Oper} {T : List Knows} {B : Nat} {a0 a : Act} {w0 w : World} {L : Nat → Bool} {Q : Exit → Act → World → Prop}

theorem Inv.start (hB : B ≤ w0.heap.size) : Inv ops T B a0 w0 (fun _ => false) a0 w0.drew :=
  ⟨rfl, rfl, fun _ _ => rfl, (Below.refl _ _).drew, fun _ _ _ h => by cases h⟩

theorem Inv.old (h : Inv ops T B a0 w0 L a w) (t : Nat) (ht : some t ∉ ops.toList.map (·.dst)) : a.eval (.tmp t) = a0.eval (.tmp t) := by
  have := h.base t ht
  simp only [Act.eval, Array.getD_eq_getD_getElem?, this]
theorem Inv.get (h : Inv ops T B a0 w0 L a w) {j d : Nat} {u : Value} (hL : L j = true) (hd : dstOf ops j = some d) (hT : T[j]? = some (.eq u)) : a.eval (.tmp d) = u := h.slots j d _ hL hd hT

theorem Inv.dsts (h : Inv ops T B a0 w0 L a w) {l : List (Option Tmp)} (hl : ops.toList.map (·.dst) = l) (hn : l.Nodup) : (ops.toList.map (·.dst)).Nodup := by rw [hl]; exact hn
theorem Inv.olds (h : Inv ops T B a0 w0 L a w) {l : List (Option Tmp)} (hl : ops.toList.map (·.dst) = l) (t : Nat) (ht : some t ∉ l) : a.eval (.tmp t) = a0.eval (.tmp t) := h.old t (by rw [hl]; exact ht)
theorem Inv.fits (h : Inv ops T B a0 w0 L a w) {n : Nat} (hn : a0.tmps.size = n) : ∀ d, d < n → d < a0.tmps.size := by subst hn; exact fun _ h => h
theorem eval_put_same {d : Nat} {v : Value} (hd : d < a.tmps.size) : (a.put (some d) v).eval (.tmp d) = v := by
  simp [Act.eval, Act.put, hd]
theorem eval_put_other {d t : Nat} {v : Value} (h : d ≠ t) : (a.put (some d) v).eval (.tmp t) = a.eval (.tmp t) := by
  simp [Act.eval, Act.put, Array.getElem?_setIfInBounds_ne h]

theorem dst_mem {j d : Nat} (h : dstOf ops j = some d) : (ops.toList.map (·.dst))[j]? = some (some d) := by
  unfold dstOf at h
  rw [List.getElem?_map, Array.getElem?_toList]
  cases ho : ops[j]? with
  | none => rw [ho] at h; cases h
  | some o => rw [ho] at h; simp at h; simp [h]

theorem Inv.put {i d : Nat} {v : Value} {w' : World} (h : Inv ops T B a0 w0 L a w) (hn : (ops.toList.map (·.dst)).Nodup) (hi : dstOf ops i = some d) (hd : d < a0.tmps.size) (hb : Below B w0 w')
    {kn : Knows} (hT : T[i]? = some kn) (hv : kn.holds B (ran L i) v w') (hk : ∀ j kn u, j ≠ i → L j = true → T[j]? = some kn → kn.holds B L u w → kn.holds B (ran L i) u w') : Inv ops T B a0 w0 (ran L i) (a.put (some d) v) w' := by
  refine ⟨h.defers, by simp [Act.put, h.size], fun t ht => ?_, hb, fun j e kn' hL he hT' => ?_⟩
  · have hne : d ≠ t := by
      rintro rfl
      exact ht (List.mem_of_getElem? (dst_mem hi))
    rw [← h.base t ht]
    simp [Act.put, Array.getElem?_setIfInBounds_ne hne]
  · by_cases hj : j = i
    · subst hj
      rw [hi] at he
      injection he with he
      subst he
      rw [eval_put_same (by rw [h.size]; exact hd)]
      rw [hT] at hT'
      injection hT' with hT'
      subst hT'
      exact hv
    · have hne : d ≠ e := by
        rintro rfl
        have h1 := dst_mem hi
        have h2 := dst_mem he
        have l1 : i < (ops.toList.map (·.dst)).length := by
          rcases Nat.lt_or_ge i (ops.toList.map (·.dst)).length with h | h
          · exact h
          · rw [List.getElem?_eq_none h] at h1; cases h1
        exact hj (((List.getElem?_inj l1 hn).1 (h1.trans h2.symm)).symm)
      rw [eval_put_other hne]
      have hL' : L j = true := by
        unfold ran at hL
        rwa [if_neg hj] at hL
      exact hk j kn' _ hj hL' hT' (h.slots j e kn' hL' he hT')

theorem Inv.putA {i d : Nat} {v : Value} (h : Inv ops T B a0 w0 L a w) (hn : (ops.toList.map (·.dst)).Nodup) (hi : dstOf ops i = some d) (hd : d < a0.tmps.size) (hT : T[i]? = some (.eq v)) : Inv ops T B a0 w0 (ran L i) (a.put (some d) v) w :=
  h.put hn hi hd h.below hT rfl fun _ _ _ _ _ _ h => h.same i
theorem Inv.putB {i d : Nat} {v : Value} {o : Obj} (h : Inv ops T B a0 w0 L a w) (hn : (ops.toList.map (·.dst)).Nodup) (hB : B ≤ w.heap.size) (hi : dstOf ops i = some d) (hd : d < a0.tmps.size) {kn : Knows} (hT : T[i]? = some kn) (hv : kn.holds B (ran L i) v (w.alloc o)) : Inv ops T B a0 w0 (ran L i) (a.put (some d) v) (w.alloc o) :=
  h.put hn hi hd (h.below.alloc hB o) hT hv fun _ _ _ _ _ _ h => h.alloc i o
theorem cells_made {B k i n : Nat} {cs : Array Value} {e : TypeId} {fr : Nat × Nat} : (Knows.cells k n cs.toList).holds B (ran L i) (.slice (some ⟨w.heap.size, 0, none⟩) n n) (w.alloc (.cells cs e fr)) :=
  .inr ⟨w.heap.size, rfl, by simp, fun j u hu => by
    have := World.news_of_block (heap_alloc_new w (.cells cs e fr)) j u hu
    simpa [Addr.add_lit] using this⟩
theorem wpOp_at {i : Nat} {o : Oper} {K : Act → World → Prop} (hi : ops[i]? = some o) (hw : Region.wanted o (yielded ops a.tmps) = true) (h : o.wp P a w K Q) : wpOp P ops Q i K a w := by
  unfold wpOp
  simp only [hi, hw, if_true]
  exact .inl h
theorem wanted_none {o : Oper} {y : Nat → Option Bool} (h : o.guard = none) : Region.wanted o y = true := by simp [Region.wanted, h]
theorem wanted_true {o : Oper} {j d : Nat} (h : o.guard = some (j, true)) (hd : dstOf ops j = some d) (hv : a.eval (.tmp d) = .bool true) : Region.wanted o (yielded ops a.tmps) = true := by
  have : yielded ops a.tmps j = some true := by
    unfold yielded
    unfold dstOf at hd
    rw [hd]
    simp only [Act.eval, Array.getD_eq_getD_getElem?] at hv
    cases ht : a.tmps[d]? with
    | none => rw [ht] at hv; cases hv
    | some u => rw [ht] at hv; simp at hv; subst hv; simp [ht]
  simp [Region.wanted, h, this]

theorem wp_val {o : Oper} {K : Act → World → Prop} {v : Value} {w' : World} (hr : (execOp a.eval o).run P w = .ok (.value v) w') (h : K (a.put o.dst v) w') : o.wp P a w K Q := by
  unfold Oper.wp
  rw [hr]
  exact h
theorem wp_fn {o : Oper} {K : Act → World → Prop} {f : Nat} {x : Operand} {ats : Array TypeId} (ho : o.op = .call { callee := .value (.func f), args := #[x], argTypes := ats })
    (hc : ∀ xs w, (callFunc f xs).run P w = .ok (.enter f xs) w)
    (h : Calls P f #[a.eval x] w fun e w' => ∃ v, e = .returned v ∧ K (a.put o.dst v) w') : o.wp P a w K Q := by
  have he : execOp a.eval o = callFunc f #[a.eval x] := by
    have ef : a.eval (.func f) = .func (.func f) #[] #[] := rfl
    unfold execOp
    simp [ho, resolve, Deferred.ofValue, invoke, ef]
  unfold Oper.wp
  rw [he, hc]
  refine h.mono ?_
  rintro e w' ⟨v, rfl, hk⟩
  exact hk
theorem enters {f : Nat} {fn : Func} (hf : P.funcs[f]? = some fn) (h1 : (fn.name == "runtime.NumGoroutine") = false) (h2 : fn.body.isSome = true) (xs : Array Value) (w : World) : (callFunc f xs).run P w = .ok (.enter f xs) w := by
  have h1' : ¬ fn.name = "runtime.NumGoroutine" := by simpa using h1
  have h2' : ¬ fn.body = none := by intro h; rw [h] at h2; cases h2
  unfold callFunc
  simp [Sem.run_bind, hf, h1', h2', Sem.run_pure, Result.andThen]
theorem wp_move {o : Oper} {K : Act → World → Prop} {x : Operand} {v : Value} (ho : o.op = .move x) (hx : a.eval x = v) (h : K (a.put o.dst v) w) : o.wp P a w K Q :=
  wp_val (by simp [execOp, ho, hx, Sem.run_pure]) h
theorem wp_assign {o : Oper} {K : Act → World → Prop} {x : Operand} {v : Value} (ho : o.op = .assign x) (hx : a.eval x = v) (h : K (a.put o.dst v) w) : o.wp P a w K Q :=
  wp_val (by simp [execOp, ho, hx, Sem.run_pure]) h
theorem wp_region_slots {id : Nat} (hm : P.follows .mixedOrders = true) {D : List (List Nat)} (hD : waits ops = D) (hlow : ∀ i, ∀ k ∈ D.getD i [], k < i) (T : List Knows) (B : Nat) (hB : B ≤ w.heap.size)
    (hstep : ∀ L a' w' i, i < ops.size → L i = false → (∀ k ∈ D.getD i [], L k = true) → (∀ j, L j = true → ∀ k ∈ D.getD j [], L k = true) → Inv ops T B a w L a' w' → wpOp P ops Q i (Inv ops T B a w (ran L i)) a' w')
    (hend : ∀ L a' w', (∀ i, i < ops.size → L i = true) → Inv ops T B a w L a' w' → Q .normal a' w') : (Code.region id ops true).wp P Q a w :=
  wp_region_inv hm hD hlow _ (Inv.start hB) hstep hend

/-- What a slot's reader is; a slot whose reader has run says nothing. -/
def Knows.reader (kn : Knows) : Option Nat :=
  match kn.kind with
  | 0 => none
  | _ => some kn.till
theorem Knows.holds.dead {i : Nat} {u : Value} {w' : World} {kn : Knows} (h : kn.holds B L u w) (hd : ∀ k, kn.reader = some k → ran L i k = true) : kn.holds B (ran L i) u w' := by
  obtain ⟨kd, v, k, n, e, xs⟩ := kn
  match kd, h, hd with
  | 0, h, _ => exact h
  | 1, _, hd => exact .inl (hd k rfl)
  | 2, _, hd => exact .inl (hd k rfl)
  | m + 3, _, hd => exact .inl (hd k rfl)
def readers (T : List Knows) : List (Nat × Nat) := T.zipIdx.filterMap fun (kn, j) => kn.reader.map (j, ·)
theorem mem_readers {j k : Nat} {kn : Knows} (h : T[j]? = some kn) (hk : kn.reader = some k) : (j, k) ∈ readers T := by
  unfold readers
  rw [List.mem_filterMap]
  refine ⟨(kn, j), ?_, by simp [hk]⟩
  rw [List.mem_zipIdx_iff_getElem?]
  exact h
end
end Go.Proofs.Ytjbachplnkonkaa
