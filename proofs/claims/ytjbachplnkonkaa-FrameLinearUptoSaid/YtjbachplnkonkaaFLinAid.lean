/- FrameLinear: what the operations of its last region do. -/
import Derived.Test.YtjbachplnkonkaaAwake2
import Derived.Test.YtjbachplnkonkaaAnySlots
namespace Go.Proofs.Ytjbachplnkonkaa
set_option linter.unusedVariables false
open Go.RowKit
open Varm Frm

section
variable {ρ : Operand → Value} {w : World} {o : Oper}
theorem r_cut {A : Option Addr} {m c n : Nat} {x y : Operand} (ho : o.op = .slice 24 x none (some y) none) (hx : ρ x = .slice A m c) (hy : ρ y = .int .i64 n) (hn : n ≤ c) : (execOp ρ o).run Try.prog w = .ok (.value (.slice A n c)) w := by
  obtain ⟨dst, op, type, pos, after, guard⟩ := o
  simp only at ho
  subst ho
  have h1 : (0 : Int) ≤ n := by omega
  have h2 : (n : Int) ≤ c := by omega
  unfold execOp
  simp only [hx, hy, Option.map_none, Option.map_some]
  go_simp
theorem r_one {A : Option Addr} {n c : Nat} {x : Operand} (ho : o.op = .buildSlice 39 1 #[(0, x)]) (hx : ρ x = .slice A n c) : (execOp ρ o).run Try.prog w = .ok (.value (.slice (some ⟨w.heap.size, 0, none⟩) 1 1)) (w.alloc (.cells #[.slice A n c] 24)) := by
  obtain ⟨dst, op, type, pos, after, guard⟩ := o
  simp only at ho
  subst ho
  unfold execOp
  simp only [hx, List.map_toArray, List.map_cons, List.map_nil]
  go_simp
theorem r_four {A1 A2 A3 : Option Addr} {n1 n2 n3 c1 c2 c3 : Nat} {x1 x2 x3 : Operand} (ho : o.op = .buildSlice 39 4 #[(0, x1), (1, x2), (2, .const (.slice none 0 0)), (3, x3)]) (hx1 : ρ x1 = .slice A1 n1 c1) (hx2 : ρ x2 = .slice A2 n2 c2) (hx3 : ρ x3 = .slice A3 n3 c3) (hc : ρ (.const (.slice none 0 0)) = .slice none 0 0) : (execOp ρ o).run Try.prog w = .ok (.value (.slice (some ⟨w.heap.size, 0, none⟩) 4 4)) (w.alloc (.cells #[.slice A1 n1 c1, .slice A2 n2 c2, .slice none 0 0, .slice A3 n3 c3] 24)) := by
  obtain ⟨dst, op, type, pos, after, guard⟩ := o
  simp only at ho
  subst ho
  unfold execOp
  simp only [hx1, hx2, hx3, hc, List.map_toArray, List.map_cons, List.map_nil]
  go_simp
theorem r_none (ho : o.op = .buildSlice 24 0 #[]) : (execOp ρ o).run Try.prog w = .ok (.value (.slice (some ⟨w.heap.size, 0, none⟩) 0 0)) (w.alloc (.cells #[] 5)) := by
  obtain ⟨dst, op, type, pos, after, guard⟩ := o
  simp only at ho
  subst ho
  unfold execOp
  simp only [List.map_toArray, List.map_nil]
  go_simp
theorem r_xor {p q : Nat} {x y : Operand} (ho : o.op = .binOp .xor 40 x y 40) (hx : ρ x = .int .u32 p) (hy : ρ y = .int .u32 q) (hp : p < 4294967296) (hq : q < 4294967296) : (execOp ρ o).run Try.prog w = .ok (.value (.int .u32 ((p ^^^ q : Nat) : Int))) w := by
  obtain ⟨dst, op, type, pos, after, guard⟩ := o
  simp only at ho
  subst ho
  have h := u32_xor_nat p q hp hq
  unfold execOp
  simp only [hx, hy]
  go_simp
theorem r_eql {p q : Nat} {x y : Operand} (ho : o.op = .binOp .eql 40 x y 40) (hx : ρ x = .int .u32 p) (hy : ρ y = .int .u32 q) (hp : p = q) : (execOp ρ o).run Try.prog w = .ok (.value (.bool true)) w := by
  obtain ⟨dst, op, type, pos, after, guard⟩ := o
  simp only at ho
  subst ho hp
  unfold execOp
  simp only [hx, hy]
  go_simp
theorem r_pick {x y z : Operand} (ho : o.op = .pick x y z) (hx : ρ x = .bool true) (hy : ρ y = .bool true) : (execOp ρ o).run Try.prog w = .ok (.value (.bool true)) w := by
  obtain ⟨dst, op, type, pos, after, guard⟩ := o
  simp only at ho
  subst ho
  unfold execOp
  simp only [hx, hy]
  go_simp
end

theorem hent (xs : Array Value) (w : World) : (callFunc 24 xs).run Try.prog w = .ok (.enter 24 xs) w :=
  enters (fn := Try.f24) (by kernel_rfl) (by kernel_rfl) (by kernel_rfl) xs w
theorem own_none {B : Nat} {w : World} (hB : B ≤ w.heap.size) : (w.alloc (.cells #[] 5)).ownsRow B 5 1 (.slice (some ⟨w.heap.size, 0, none⟩) 0 0) 0 [] :=
  World.ownsRow_lit w #[] 0 hB (by decide) rfl
theorem sum1n (l : List UInt8) (A : Option Addr) (c n b : Nat) (w : World) (hn : l.length = n) (hc : w.cell? ⟨b, 0, none⟩ = some (.slice A n c)) (hb : b < w.heap.size) (hr : Reads w w.heap.size A (l.map vb)) (hl : n ≤ 9223372036854775807) :
    Calls Try.prog 24 #[.slice (some ⟨b, 0, none⟩) 1 1] w fun e w' => e = .returned (.int .u32 (sum l)) ∧ w = w' := by
  subst hn
  exact sum1 l A c b w w.heap.size hc hb hr hl
theorem sumOwn (a b c : List UInt8) (g : Nat) (u : Value) (w : World) (B : Nat) (hc : w.cell? ⟨g, 0, none⟩ = some u) (hb : g < w.heap.size)
    (hown : w.ownsRow B 5 1 u (0 + a.length + b.length + c.length) ([] ++ a.map vb ++ b.map vb ++ c.map vb)) (h1 : a.length ≤ 1048576) (h2 : b.length ≤ 1048576) (h3 : c.length ≤ 1048576) :
    Calls Try.prog 24 #[.slice (some ⟨g, 0, none⟩) 1 1] w fun e w' => e = .returned (.int .u32 (sum (a ++ b ++ c))) ∧ w = w' := by
  obtain ⟨A, cap, rfl, -, -⟩ := own_slice hown
  have hr := Reads.of_own hown
  have e : [] ++ a.map vb ++ b.map vb ++ c.map vb = (a ++ b ++ c).map vb := by simp
  rw [e] at hr
  exact sum1n (a ++ b ++ c) A cap _ g w (by rw [List.length_append, List.length_append, Nat.zero_add]) hc hb hr (by omega)
theorem sum4 (a b c : List UInt8) (A1 A2 A3 : Option Addr) (c1 c2 c3 g : Nat) (w : World)
    (hc : ∀ j u, ([.slice A1 a.length c1, .slice A2 b.length c2, .slice none 0 0, .slice A3 c.length c3] : List Value)[j]? = some u → w.cell? ⟨g, j, none⟩ = some u) (hb : g < w.heap.size)
    (r1 : Reads w w.heap.size A1 (a.map vb)) (r2 : Reads w w.heap.size A2 (b.map vb)) (r3 : Reads w w.heap.size A3 (c.map vb)) (h1 : a.length ≤ 1048576) (h2 : b.length ≤ 1048576) (h3 : c.length ≤ 1048576) :
    Calls Try.prog 24 #[.slice (some ⟨g, 0, none⟩) 4 4] w fun e w' => e = .returned (.int .u32 (sum (a ++ b ++ c))) ∧ w = w' := by
  have h := sum_any [⟨A1, a, c1⟩, ⟨A2, b, c2⟩, ⟨none, [], 0⟩, ⟨A3, c, c3⟩] (some ⟨g, 0, none⟩) 4 w w.heap.size (fun _ => ⟨g, 0, rfl, hb, fun j u hu => by rw [Nat.zero_add]; exact hc j u hu⟩) (by
    intro p hp
    simp only [List.mem_cons, List.not_mem_nil, or_false] at hp
    rcases hp with rfl | rfl | rfl | rfl
    · exact ⟨r1, by show a.length ≤ _; omega⟩
    · exact ⟨r2, by show b.length ≤ _; omega⟩
    · exact ⟨Reads.nil_, by decide⟩
    · exact ⟨r3, by show c.length ≤ _; omega⟩) (show 4 ≤ _ by decide)
  have e : allOf [⟨A1, a, c1⟩, ⟨A2, b, c2⟩, ⟨none, [], 0⟩, ⟨A3, c, c3⟩] = a ++ b ++ c := by simp [allOf]
  rw [e] at h
  exact h
end Go.Proofs.Ytjbachplnkonkaa
