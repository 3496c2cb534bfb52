/- The program's Merge: its two arrays as boxes; how a round changes them. -/
import Derived.Test.YtpfladolkkhfdaaRefMerge
import Derived.Deep.MidRow
namespace Go.Proofs.Ytpfladolkkhfdaa
set_option linter.unusedVariables false
open Go.RowKit

/-- A block of 32 cells that may be written. -/
def Box (w : World) (b : Nat) (V : Nat → Value) : Prop := ∀ t, t < 32 → w.cell? ⟨b, t, none⟩ = some (V t) ∧ w.frozen? ⟨b, t, none⟩ = false
section
variable {w w' : World} {b : Nat} {V : Nat → Value}
theorem Box.lt (h : Box w b V) : b < w.heap.size := World.block_lt_of_cell? w _ (h 0 (by omega)).1
theorem Box.grown (h : Box w b V) {row : Option Nat} (hg : w.grownBy w' row) (hr : some b ≠ row) : Box w' b V := fun t ht =>
  ⟨(World.cell?_of_block (hg.block b h.lt hr)).trans (h t ht).1, (World.frozen?_of_block (hg.block b h.lt hr)).trans (h t ht).2⟩
theorem Box.set (h : Box w b V) (t : Nat) (u : Value) : Box (w.setCell ⟨b, t, none⟩ u) b (fun j => if j = t then u else V j) := fun j hj => by
  refine ⟨?_, (World.frozen?_setCell ..).trans (h j hj).2⟩
  by_cases he : j = t
  · subst he
    simp only [↓reduceIte]
    exact World.cell?_setCell_same _ _ _ (h j hj).1
  · simp only [if_neg he]
    exact (World.cell?_setCell_other _ _ _ _ (fun e => he (by injection e with _ e _; exact e.symm))).trans (h j hj).1
theorem Box.far (h : Box w b V) {b' t : Nat} (hb : b' ≠ b) (u : Value) : Box (w.setCell ⟨b', t, none⟩ u) b V := fun j hj =>
  ⟨(World.cell?_setCell_other _ _ _ _ (fun e => hb (by injection e))).trans (h j hj).1, (World.frozen?_setCell ..).trans (h j hj).2⟩
theorem Box.alloc (h : Box w b V) (o : Obj) : Box (w.alloc o) b V := h.grown (World.grownBy_alloc w o none) (by simp)
theorem Box.fresh (w : World) (v : Value) (e : TypeId) : Box (w.alloc (.cells (Array.replicate 32 v) e)) w.heap.size (fun _ => v) := fun t ht => by
  refine ⟨?_, World.frozen?_alloc_new w _ _ t⟩
  rw [World.cell?_alloc_new]
  simp [ht]
end

theorem grown_setCell (w : World) (a : Addr) (u : Value) : w.grownBy (w.setCell a u) (some a.block) :=
  ⟨rfl, rfl, rfl, by simp [World.setCell], fun k _ hk => Below.heap_setCell _ _ _ _ (fun e => hk (by rw [e]))⟩

/-- What the first loop has made of the first k. -/
structure MI (l : List Sg) (w0 w : World) (k : Nat) (V : Nat → Value) : Prop where
  below : Below w0.heap.size w0 w
  size : w0.heap.size + 2 ≤ w.heap.size
  tiers : Box w w0.heap.size V
  sums : Box w (w0.heap.size + 1) (fun t => .int .i64 (min ((placesTo l t k).2 : Int) 65537))
  own : ∀ t, t < 32 → w.ownsRow (w0.heap.size + 2) 3 1 (V t) (placesTo l t k).1.length (pl (placesTo l t k).1)
  apart : ∀ t t', t < 32 → t' < 32 → t ≠ t' → (V t).ownBlock = none ∨ (V t).ownBlock ≠ (V t').ownBlock

section
variable {l : List Sg} {w0 w : World} {k : Nat} {V : Nat → Value}
theorem MI.alloc (h : MI l w0 w k V) (o : Obj) : MI l w0 (w.alloc o) k V :=
  ⟨h.below.alloc (by have := h.size; omega) o, by have := h.size; simp; omega, h.tiers.alloc o, h.sums.alloc o, fun t ht => (h.own t ht).alloc o, h.apart⟩
theorem MI.drew (h : MI l w0 w k V) : MI l w0 w.drew k V := ⟨h.below.drew, h.size, h.tiers, h.sums, h.own, h.apart⟩
theorem MI.drewN (h : MI l w0 w k V) (n : Nat) : MI l w0 (w.drewN n) k V := ⟨below_drewN h.below, h.size, h.tiers, h.sums, h.own, h.apart⟩
theorem MI.same (h : MI l w0 w k V) (he : ∀ t, placesTo l t (k + 1) = placesTo l t k) : MI l w0 w (k + 1) V :=
  ⟨h.below, h.size, h.tiers, by simp only [he]; exact h.sums, by simp only [he]; exact h.own, h.apart⟩
theorem MI.start : MI l w0 ((w0.alloc (.cells (Array.replicate 32 (.slice none 0 0)) 57)).alloc (.cells (Array.replicate 32 (.int .i64 0)) 58)) 0 (fun _ => .slice none 0 0) := by
  refine ⟨((Below.refl _ _).alloc (Nat.le_refl _) _).alloc (by simp) _, by simp, (Box.fresh w0 _ _).alloc _, ?_, fun t ht => World.ownsRow_nil _ _ _ _, fun t t' _ _ _ => .inl rfl⟩
  have := Box.fresh (w0.alloc (.cells (Array.replicate 32 (.slice none 0 0)) 57)) (.int .i64 0) 58
  have e : (w0.alloc (.cells (Array.replicate 32 (.slice none 0 0)) 57)).heap.size = w0.heap.size + 1 := by simp
  rw [e] at this
  exact this

/-- One more place in tier t. -/
theorem MI.take (h : MI l w0 w k V) {t n : Nat} (ht : t < 32) (hn : ∀ j, placesTo l j (k + 1) = if j = t then ((placesTo l t k).1 ++ [k], n) else placesTo l j k)
    {w' : World} {v : Value} (hg : Grew w (V t) w' v) (hown : w'.ownsRow (w0.heap.size + 2) 3 1 v ((placesTo l t k).1.length + 1) (pl (placesTo l t k).1 ++ [.int .i64 k])) :
    MI l w0 ((w'.setCell ⟨w0.heap.size, t, none⟩ v).setCell ⟨w0.heap.size + 1, t, none⟩ (.int .i64 (min (n : Int) 65537))) (k + 1) (fun j => if j = t then v else V j) := by
  have hs := h.size
  have hs' := hg.by_.size
  have hrow : ∀ r, (V t).ownBlock = some r → w0.heap.size + 2 ≤ r := fun r hr => ((h.own t ht).lt r hr).1
  have hv : ∀ r, v.ownBlock = some r → w0.heap.size + 2 ≤ r := fun r hr => (hown.lt r hr).1
  have keep : ∀ {x : Value} {m : Nat} {xs : List Value} {W : World}, W.ownsRow (w0.heap.size + 2) 3 1 x m xs → ∀ (q : Addr) (u : Value), q.block < w0.heap.size + 2 → (W.setCell q u).ownsRow (w0.heap.size + 2) 3 1 x m xs := by
    intro x m xs W hx q u hq
    exact hx.kept (grown_setCell W q u) (by
      cases hb : x.ownBlock with
      | none => exact .inl rfl
      | some r => exact .inr (by have := (hx.lt r hb).1; intro e; injection e with e; omega))
  refine ⟨?_, by simp; omega, ?_, ?_, ?_, ?_⟩
  · exact (((h.below.grown hg.by_ (by omega) (fun r hr => by have := hrow r hr; omega))).setCell (by simp) _).setCell (by simp) _
  · refine Box.far (Box.set (h.tiers.grown hg.by_ ?_) t v) (by omega) _
    intro e
    have := hrow _ e.symm
    omega
  · have h1 := Box.set (Box.far (b' := w0.heap.size) (t := t) (h.sums.grown hg.by_ (by intro e; have := hrow _ e.symm; omega)) (by omega) v) t (.int .i64 (min (n : Int) 65537))
    intro j hj
    have h2 := h1 j hj
    refine ⟨h2.1.trans ?_, h2.2⟩
    simp only [hn]
    by_cases he : j = t <;> simp [he]
  · intro j hj
    simp only [hn]
    by_cases he : j = t
    · subst he
      simp only [↓reduceIte]
      refine keep (keep ?_ _ _ (by simp)) _ _ (by simp)
      simpa using hown
    · simp only [if_neg he]
      refine keep (keep ((h.own j hj).kept hg.by_ (h.apart j t hj ht he)) _ _ (by simp)) _ _ (by simp)
  · have hnew : ∀ j, j < 32 → j ≠ t → ((V j).ownBlock = none ∨ (V j).ownBlock ≠ v.ownBlock) ∧ (v.ownBlock = none ∨ v.ownBlock ≠ (V j).ownBlock) := by
      intro j hj he
      rcases hg.at_ with e | ⟨r, e, hr⟩
      · rw [e]; exact ⟨h.apart j t hj ht he, h.apart t j ht hj (fun e => he e.symm)⟩
      · rw [e]
        cases hb : (V j).ownBlock with
        | none => exact ⟨.inl rfl, .inr (by simp)⟩
        | some r' =>
          have := ((h.own j hj).lt r' hb).2
          exact ⟨.inr (by simp; omega), .inr (by simp; omega)⟩
    intro j j' hj hj' hne
    by_cases h1 : j = t
    · subst h1
      rw [if_pos rfl, if_neg (fun e => hne e.symm)]
      exact (hnew j' hj' (fun e => hne e.symm)).2
    · by_cases h2 : j' = t
      · subst h2
        rw [if_neg h1, if_pos rfl]
        exact (hnew j hj h1).1
      · rw [if_neg h1, if_neg h2]
        exact h.apart j j' hj hj' hne
end
end Go.Proofs.Ytpfladolkkhfdaa
