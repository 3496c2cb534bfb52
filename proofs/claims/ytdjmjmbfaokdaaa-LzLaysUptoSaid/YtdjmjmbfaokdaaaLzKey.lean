/- A map from four bytes: what its keys read as; the operations on an array of four bytes. -/
import Derived.Test.YtdjmjmbfaokdaaaLzM
import Derived.Maps.OwnSet
import Derived.DeepKeys4
import Derived.WideKeyPair
import Derived.Deep.MidRow
import Derived.Deep.WholeRow
namespace Go.Proofs.Ytdjmjmbfaokdaaa
set_option linter.unusedVariables false
open Go.RowKit
open Go.WideMaps
open Varm

theorem arr4 : ArrKey Try.prog 50 5 4 := ⟨Try.underlying50, by kernel_rfl, by kernel_rfl, by kernel_rfl⟩
theorem size4 : (Try.prog.info? 50).map (·.size) = some 4 := by kernel_rfl
theorem zero4 : (Try.prog.info? 50).map (fun i => (i.zero, i.size)) = some (some (.agg #[.int .u8 0, .int .u8 0, .int .u8 0, .int .u8 0]), 4) := by kernel_rfl
theorem laid4 : laidOutB Try.prog = true := by kernel_rfl
theorem law4 : KeyLaw Try.prog 50 := deep_law_laid laid4 (m := 2) (by omega) (of_decide_eq_true (by kernel_rfl)) (by kernel_rfl) (by rw [Try.underlying50])
theorem keyed4 : Maps.Keyed Try.prog 50 := Maps.Keyed.of_law law4
theorem types_pos : ∃ m, Try.prog.types.size = m + 1 := ⟨Try.prog.types.size - 1, by have : 0 < Try.prog.types.size := of_decide_eq_true (by kernel_rfl); omega⟩

def klOf (k : List UInt8) : Lit := .string (keyBytes (k.map fun c => Lit.int .u8 (c.toNat : Int)))
theorem wf_u8 (c : UInt8) : (Lit.int .u8 (c.toNat : Int)).wf = true := by
  have := UInt8.toNat_lt c
  simp [Lit.wf, IntKind.min, IntKind.max, IntKind.signed, IntKind.bits]
  omega
theorem keyOf4' (a b c d : UInt8) : keyOf Try.prog 50 (.agg #[vb a, vb b, vb c, vb d]) = some (klOf [a, b, c, d]) := by
  have A := arr4
  have he := Try.underlying5
  have hkt := A.keyType types_pos
  obtain ⟨m, hm⟩ := types_pos
  unfold keyOf
  simp only [A.hu]
  rw [if_pos (by simp [hkt, Value.formed, A.hu, A.size]), hm]
  unfold Program.keyLits
  simp only [A.hu, Value.cells]
  rw [if_pos (by rw [A.size]; rfl), show List.range 4 = [0, 1, 2, 3] from rfl, List.mapM_cons, List.mapM_cons, List.mapM_cons, List.mapM_cons, List.mapM_nil]
  simp [A.one, Program.keyLits, he, wf_u8, klOf]
theorem keyOf4 {k : List UInt8} (h : k.length = 4) : keyOf Try.prog 50 (.agg (k.map vb).toArray) = some (klOf k) := by
  match k, h with
  | [a, b, c, d], _ => exact keyOf4' a b c d
theorem vb_inj {a b : UInt8} (h : vb a = vb b) : a = b := by
  have : (a.toNat : Int) = b.toNat := by injection h
  exact UInt8.toNat_inj.1 (by omega)
theorem klOf_inj {k l : List UInt8} (hk : k.length = 4) (hl : l.length = 4) (h : klOf k = klOf l) : k = l := by
  have := keyed4.inj (keyOf4 hk) (h ▸ keyOf4 hl)
  have h1 : k.map vb = l.map vb := by injection this with h2; simpa using congrArg Array.toList h2
  exact (List.map_inj_right (fun x y => vb_inj)).1 h1
theorem klOf_key {k : List UInt8} (hk : k.length = 4) : WideAt.IsKeyLit (klOf k) := keyed4.key (keyOf4 hk)

/-- The map reads as the plain function S. -/
def SeenIs (D : DataW Unit) (S : List UInt8 → Option Nat) : Prop :=
  ∀ k, k.length = 4 → Maps.has D (klOf k) = (S k).isSome ∧ D.atKey (klOf k) (.lit (.int .i64 0)) = .lit (.int .i64 (((S k).getD 0 : Nat) : Int))
theorem seen_empty : SeenIs (.map []) (fun _ => none) := fun k hk => ⟨rfl, rfl⟩
theorem seen_put {D : DataW Unit} {S : List UInt8 → Option Nat} (h : SeenIs D S) (hD : Maps.IsMap D) {k : List UInt8} (hk : k.length = 4) (p : Nat) :
    SeenIs (D.put (klOf k) (.lit (.int .i64 (p : Int)))) (fun k' => if k' = k then some p else S k') := fun k' hk' => by
  by_cases e : k' = k
  · subst e
    simp only [if_true]
    exact ⟨Maps.has_put_same hD (klOf_key hk) _, Maps.atKey_put_same hD (klOf_key hk) _ _⟩
  · show _ = (if k' = k then some p else S k').isSome ∧ _ = DataW.lit (Lit.int .i64 (((if k' = k then some p else S k').getD 0 : Nat) : Int))
    rw [if_neg e]
    have hne : klOf k' ≠ klOf k := fun h => e (klOf_inj hk' hk h)
    exact ⟨(Maps.has_put_other hne _).trans (h k' hk').1, (Maps.atKey_put_other hne _ _).trans (h k' hk').2⟩

/-- '[4]byte(s)': the address. -/
theorem wpList_arrayAt {P : Program} {w : World} {ops : Array Oper} {rest : List Oper} {o : Oper} {a : Act} {Q : Exit → Act → World → Prop} (hg : o.guard = none) (t : TypeId) (x : Operand) (hop : o.op = .sliceToArrayPointer t x)
    (n : Nat) (e : TypeId) (ht : P.underlying t = some (.array n e)) (A : Option Addr) (len c : Nat) (hx : a.eval x = .slice A len c) (hn : n ≤ len)
    (hK : wpList P ops Q rest (a.put o.dst (.pointer A)) w) : wpList P ops Q (o :: rest) a w := by
  refine wpList_plain hg fun K' hK' => ?_
  unfold Oper.wp execOp
  simp only [hop, hx, Instr.arrayAt, Sem.run_bind, run_underlying ht, Result.andThen_ok]
  rw [if_neg (by omega)]
  simp only [Sem.run_pure, Result.andThen_ok]
  exact hK' _ _ hK
end Go.Proofs.Ytdjmjmbfaokdaaa
