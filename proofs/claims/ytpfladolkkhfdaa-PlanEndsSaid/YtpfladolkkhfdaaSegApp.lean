/- Append of one element of four cells to a row of the call's own. -/
import Derived.Test.YtpfladolkkhfdaaPlanMerge
namespace Go.Proofs.Ytpfladolkkhfdaa
set_option linter.unusedVariables false
open Go.RowKit

theorem infoSeg : (Try.prog.info? 44).map (fun i => (i.zero, i.size)) = some (some (.agg #[.int .i64 0, .int .i64 0, .int .i64 0, .int .i64 0]), 4) := by kernel_rfl
theorem infoSegB : (Try.prog.info? 44).map (fun i => i.bytes) = some 32 := by kernel_rfl

/-- The operation. -/
theorem wp_appSeg {o : Oper} {a : Act} {w : World} {K : Act → World → Prop} {Q : Exit → Act → World → Prop} (s x : Operand)
    (ho : o.op = .call { callee := .builtin .append, args := #[s, x], argTypes := #[34, 34] }) (c0 c1 c2 c3 : Value) (h1 : ∀ u ∈ [c0, c1, c2, c3], u.oneCell' = true) (W : World) (hW : W = w.alloc (.cells #[c0, c1, c2, c3] 44))
    (base : Nat) (v : Value) (n : Nat) (xs : List Value) (hs : a.eval s = v) (hown : w.ownsRow base 44 4 v n xs) (b : Nat)
    (hx : a.eval x = .slice (some ⟨b, 0, none⟩) 1 1) (hb : b = w.heap.size)
    (hbytes : n + 1 ≤ 1000000000000) (hbase : base ≤ w.heap.size)
    (h : ∀ v' w', w'.ownsRow base 44 4 v' (n + 1) (xs ++ [c0, c1, c2, c3]) → Grew w v w' v' → K (a.put o.dst v') w') : o.wp Try.prog a W K Q := by
  subst hb
  subst hW
  have hi := infoSeg
  have hib := infoSegB
  cases hq : Try.prog.info? 44 with
  | none => rw [hq] at hi; cases hi
  | some i =>
    rw [hq] at hi hib
    simp only [Option.map_some, Option.some.injEq, Prod.mk.injEq] at hi hib
    obtain ⟨hz, hsz⟩ := hi
    obtain ⟨v', w', hrun, h2, h3, -, h5⟩ := run_append_own_at (P := Try.prog) (w.alloc (.cells #[c0, c1, c2, c3] 44)) base 34 o.type 44 i _ 4 32 Try.underlying34 hq hz hsz hib rfl (by omega)
      v n xs (hown.alloc _) ⟨w.heap.size, 0, none⟩ 1 1 [c0, c1, c2, c3] rfl (fun j c hc => by
        rw [Addr.add_lit, World.cell?_alloc_new]
        simpa using hc) h1 (by unfold maxLen; omega) (by omega) (by simp; omega)
    unfold Oper.wp execOp
    simp only [ho, resolve, invoke, builtin, Sem.run_bind, Sem.run_pure, Result.andThen_ok, List.map_toArray, List.map_cons, List.map_nil, hs, hx, hrun]
    refine h v' w' h2 (Grew.of_alloc (o := .cells #[c0, c1, c2, c3] 44) ⟨h3, ?_⟩)
    rcases h5 with h5 | h5
    · exact .inl h5
    · exact .inr ⟨_, h5, Nat.le_refl _⟩

/-- 'append(s, seg)': the one segment lies in a new block. -/
theorem appSeg {ops : Array Oper} {rest : List Oper} {o : Oper} {a : Act} {w : World} {Q : Exit → Act → World → Prop} (hgd : o.guard = none) (s x : Operand)
    (ho : o.op = .call { callee := .builtin .append, args := #[s, x], argTypes := #[34, 34] }) (c0 c1 c2 c3 : Value) (h1 : ∀ u ∈ [c0, c1, c2, c3], u.oneCell' = true) (W : World) (hW : W = w.alloc (.cells #[c0, c1, c2, c3] 44))
    (base : Nat) (v : Value) (n : Nat) (xs : List Value) (hs : a.eval s = v) (hown : w.ownsRow base 44 4 v n xs) (b : Nat)
    (hx : a.eval x = .slice (some ⟨b, 0, none⟩) 1 1) (hb : b = w.heap.size)
    (hbytes : n + 1 ≤ 1000000000000) (hbase : base ≤ w.heap.size)
    (h : ∀ v' w', w'.ownsRow base 44 4 v' (n + 1) (xs ++ [c0, c1, c2, c3]) → Grew w v w' v' → wpList Try.prog ops Q rest (a.put o.dst v') w') : wpList Try.prog ops Q (o :: rest) a W :=
  wpList_plain hgd fun _ hK => wp_appSeg s x ho c0 c1 c2 c3 h1 W hW base v n xs hs hown b hx hb hbytes hbase fun v' w' h2 h3 => hK _ _ (h v' w' h2 h3)

/-- The same as a step of a region that draws. -/
theorem step_appSeg {ops : Array Oper} {o : Oper} {a : Act} {w : World} {K : Act → World → Prop} {Q : Exit → Act → World → Prop} {E : Prop} (hgd : o.guard = none) (s x : Operand)
    (ho : o.op = .call { callee := .builtin .append, args := #[s, x], argTypes := #[34, 34] }) (c0 c1 c2 c3 : Value) (h1 : ∀ u ∈ [c0, c1, c2, c3], u.oneCell' = true) (W : World) (hW : W = w.alloc (.cells #[c0, c1, c2, c3] 44))
    (base : Nat) (v : Value) (n : Nat) (xs : List Value) (hs : a.eval s = v) (hown : w.ownsRow base 44 4 v n xs) (b : Nat)
    (hx : a.eval x = .slice (some ⟨b, 0, none⟩) 1 1) (hb : b = w.heap.size)
    (hbytes : n + 1 ≤ 1000000000000) (hbase : base ≤ w.heap.size)
    (h : ∀ v' w', w'.ownsRow base 44 4 v' (n + 1) (xs ++ [c0, c1, c2, c3]) → Grew w v w' v' → K (a.put o.dst v') w') :
    if Region.wanted o (yielded ops a.tmps) = true then Oper.wp Try.prog o a W K Q else E := by
  rw [if_pos (by simp [Region.wanted, hgd])]
  exact wp_appSeg s x ho c0 c1 c2 c3 h1 W hW base v n xs hs hown b hx hb hbytes hbase h
end Go.Proofs.Ytpfladolkkhfdaa
