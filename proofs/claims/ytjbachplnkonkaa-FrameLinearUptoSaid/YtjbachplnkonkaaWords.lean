/- Words for memory: a slice that reads as a list (nil let in); what the call owns. No function of the program is walked here. -/
import Derived.Test.YtjbachplnkonkaaRows
import Derived.WalkKit
import Derived.WalkLawsBesides
import Derived.Lib.Hide
import Derived.Maps.AppendAt
import Derived.Deep.AppendLies
import Derived.Deep.Draws
import Derived.Laws.OwnMore
import Derived.Laws.AppendOwnNone
namespace Go.Proofs.Ytjbachplnkonkaa
set_option linter.unusedVariables false
open Go.RowKit

/-- A byte's value; a number's. -/
abbrev vb (c : UInt8) : Value := .int .u8 (c.toNat : Int)
abbrev vq (n : UInt64) : Value := .int .u64 (n.toNat : Int)

/-- The slice address A leads to the cells xs, below block B; of an empty list nothing is asked. -/
def Reads (w : World) (B : Nat) (A : Option Addr) (xs : List Value) : Prop :=
  xs ≠ [] → ∃ b off, A = some ⟨b, off, none⟩ ∧ b < B ∧ ∀ j u, xs[j]? = some u → w.cell? ⟨b, off + j, none⟩ = some u

section
variable {w w' : World} {B B' : Nat} {A : Option Addr} {xs : List Value}
theorem Reads.nil_ : Reads w B A [] := fun h => absurd rfl h
theorem Reads.at_ (h : Reads w B A xs) {k : Nat} (hk : k < xs.length) : ∃ b off, A = some ⟨b, off, none⟩ ∧ b < B ∧ ∀ j u, xs[j]? = some u → w.cell? ⟨b, off + j, none⟩ = some u :=
  h (by rintro rfl; simp at hk)
theorem Reads.keep (h : Reads w B A xs) (hk : ∀ p : Addr, p.block < B → w'.cell? p = w.cell? p) : Reads w' B A xs := fun hn => by
  obtain ⟨b, off, e, hb, hc⟩ := h hn
  exact ⟨b, off, e, hb, fun j u hu => (hk _ hb).trans (hc j u hu)⟩
theorem Reads.more (h : Reads w B A xs) (hB : B ≤ B') : Reads w B' A xs := fun hn => by
  obtain ⟨b, off, e, hb, hc⟩ := h hn
  exact ⟨b, off, e, by omega, hc⟩
theorem Reads.below (h : Reads w B A xs) (hb : Below B w w') : Reads w' B A xs := h.keep fun _ hp => hb.cell hp
theorem Reads.drew (h : Reads w B A xs) : Reads w.drew B A xs := h
theorem Reads.drewN (h : Reads w B A xs) (k : Nat) : Reads (w.drewN k) B A xs := h
theorem Reads.alloc (h : Reads w B A xs) (hB : B ≤ w.heap.size) (o : Obj) : Reads (w.alloc o) B A xs := h.keep fun p hp => World.cell?_alloc_lt w o p (by omega)
theorem Reads.setCell (h : Reads w B A xs) {p : Addr} (hB : B ≤ p.block) (u : Value) : Reads (w.setCell p u) B A xs :=
  h.keep fun q hq => World.cell?_setCell_other w p q u (fun e => by subst e; omega)
theorem Reads.grown (h : Reads w B A xs) {row : Option Nat} (hg : w.grownBy w' row) (hB : B ≤ w.heap.size) (hr : ∀ g, row = some g → B ≤ g) : Reads w' B A xs :=
  h.keep fun p hp => World.cell?_of_block (hg.block p.block (by omega) (fun e => by have := hr _ e.symm; omega))
/-- A cut from k on. -/
theorem Reads.cut (h : Reads w B A xs) {k cap : Nat} (hc : xs.length ≤ cap) :
    Reads w B (if cap = k then A else A.map (·.add k)) (xs.drop k) := fun hn => by
  have hk : k < xs.length := by
    rcases Nat.lt_or_ge k xs.length with h1 | h1
    · exact h1
    · exact absurd (List.drop_eq_nil_of_le h1) hn
  obtain ⟨b, off, rfl, hb, hcell⟩ := h.at_ hk
  rw [if_neg (by omega)]
  refine ⟨b, off + k, ?_, hb, fun j u hu => ?_⟩
  · simp only [Option.map_some, Addr.add]
    by_cases hk0 : k = 0 <;> simp [hk0]
  · rw [Nat.add_assoc]
    exact hcell _ u (by rw [← hu, List.getElem?_drop])
theorem Reads.take (h : Reads w B A xs) (k : Nat) : Reads w B A (xs.take k) := fun hn => by
  obtain ⟨b, off, e, hb, hc⟩ := h (by rintro rfl; simp at hn)
  refine ⟨b, off, e, hb, fun j u hu => hc j u ?_⟩
  rw [List.getElem?_take] at hu
  split at hu
  · exact hu
  · cases hu
theorem Reads.of_own {base : Nat} {e : TypeId} {n c : Nat} (h : w.ownsRow base e 1 (.slice A n c) n xs) : Reads w w.heap.size A xs := fun hn => by
  have hl : 0 < xs.length := List.length_pos_iff.2 hn
  have h1 := h.1
  obtain ⟨g, cap, hv, _, hlt⟩ := h.form (by omega)
  have hA : A = some ⟨g, 0, none⟩ := by injection hv
  subst hA
  refine ⟨g, 0, rfl, hlt, fun j u hu => ?_⟩
  have := h.cells (g := g) rfl j u hu
  simpa [Addr.add_lit] using this
/-- A block that is known whole. -/
theorem Reads.of_block {b : Nat} {cs : Array Value} {t : TypeId} {fr : Nat × Nat} (hb : w.heap[b]? = some (.cells cs t fr)) (hB : b < B) : Reads w B (some ⟨b, 0, none⟩) cs.toList := fun _ =>
  ⟨b, 0, rfl, hB, fun j u hu => by
    have := World.news_of_block hb j u hu
    simpa [Addr.add_lit] using this⟩
end

/-- One byte, one number of a list. -/
theorem Reads.byte {w : World} {b off : Nat} {l : List UInt8} (hc : ∀ j u, (l.map vb)[j]? = some u → w.cell? ⟨b, off + j, none⟩ = some u) {k : Nat} (hk : k < l.length) :
    w.cell? ⟨b, off + k, none⟩ = some (.int .u8 (l[k].toNat : Int)) := hc k _ (by simp [hk])
theorem Reads.num {w : World} {b off : Nat} {l : List UInt64} (hc : ∀ j u, (l.map vq)[j]? = some u → w.cell? ⟨b, off + j, none⟩ = some u) {k : Nat} (hk : k < l.length) :
    w.cell? ⟨b, off + k, none⟩ = some (.int .u64 (l[k].toNat : Int)) := hc k _ (by simp [hk])

theorem below_of_drew {B : Nat} {w w' : World} (h : Below B w.drew w') : Below B w w' := ⟨h.os, h.tape, h.output, h.size, h.block⟩
theorem below_of_drewN {B n : Nat} {w w' : World} (h : Below B (w.drewN n) w') : Below B w w' := ⟨h.os, h.tape, h.output, h.size, h.block⟩
theorem below_drewN {B n : Nat} {a w : World} (h : Below B a w) : Below B a (w.drewN n) := ⟨h.os, h.tape, h.output, h.size, h.block⟩

theorem oneCell_vb (l : List UInt8) : ∀ u ∈ l.map vb, u.oneCell' = true := by
  intro u hu
  obtain ⟨_, _, rfl⟩ := List.mem_map.1 hu
  rfl
theorem oneCell_vq (l : List UInt64) : ∀ u ∈ l.map vq, u.oneCell' = true := by
  intro u hu
  obtain ⟨_, _, rfl⟩ := List.mem_map.1 hu
  rfl

/-- What a slice value that owns a row looks like. -/
theorem own_slice {w : World} {base : Nat} {e : TypeId} {size : Nat} {v : Value} {n : Nat} {xs : List Value} (h : w.ownsRow base e size v n xs) :
    ∃ A c, v = .slice A n c ∧ n ≤ c ∧ c ≤ maxLen ∧ (A = none → n = 0 ∧ c = 0) := by
  rcases h.2 with ⟨rfl, rfl⟩ | ⟨g, cap, cur, rfl, _, _, hc, hm, _⟩
  · exact ⟨none, 0, rfl, Nat.le_refl _, Nat.zero_le _, fun _ => ⟨rfl, rfl⟩⟩
  · exact ⟨_, cap, rfl, hc, hm, fun h => by cases h⟩

end Go.Proofs.Ytjbachplnkonkaa
