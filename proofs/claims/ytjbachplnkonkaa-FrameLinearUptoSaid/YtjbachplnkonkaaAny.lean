/- A law for a region that draws its order, with no branch over orders: an invariant on which operations have run, what their slots hold, and the world. -/
import Derived.Test.YtjbachplnkonkaaLaws
import Derived.Orders
namespace Go.Proofs.Ytjbachplnkonkaa
set_option linter.unusedVariables false

/-- One operation more has run. -/
def ran (L : Nat → Bool) (i : Nat) : Nat → Bool := fun j => if j = i then true else L j
/-- What each operation waits for. -/
def waits (ops : Array Oper) : List (List Nat) := ops.toList.map fun o => (o.after.toList.filter (Region.binds .any)).map (·.on)
/-- How many have not run. -/
def open_ (L : Nat → Bool) : Nat → Nat
  | 0 => 0
  | n + 1 => open_ L n + if L n then 0 else 1

theorem open_same {L L' : Nat → Bool} : ∀ n, (∀ j, j < n → L j = L' j) → open_ L n = open_ L' n
  | 0, _ => rfl
  | n + 1, h => by rw [open_, open_, open_same n (fun j hj => h j (by omega)), h n (by omega)]
theorem open_ran {L : Nat → Bool} {i : Nat} (hL : L i = false) : ∀ n, i < n → open_ (ran L i) n + 1 = open_ L n
  | 0, h => by omega
  | n + 1, h => by
    rw [open_, open_]
    by_cases he : i = n
    · subst he
      rw [open_same (L := ran L i) (L' := L) i (fun j hj => by unfold ran; rw [if_neg (by omega)])]
      simp [ran, hL]
    · have := open_ran hL n (by omega)
      have e : ran L i n = L n := by unfold ran; rw [if_neg (by omega)]
      rw [e]
      omega

section
variable {P : Program} {ops : Array Oper} {Q : Exit → Act → World → Prop}

theorem mem_ready {listed : Array Bool} (hs : listed.size = ops.size) {i : Nat} :
    i ∈ Region.ready .any ops listed ↔ i < ops.size ∧ listed.getD i false = false ∧ ∀ k ∈ (waits ops).getD i [], listed.getD k false = true := by
  unfold Region.ready
  rw [List.mem_filter, List.mem_range]
  constructor
  · rintro ⟨h1, h2⟩
    have e : ops[i]? = some (ops[i]) := Array.getElem?_eq_getElem h1
    rw [e] at h2
    have hi : i < listed.size := by omega
    simp only [Array.getD_eq_getD_getElem?, Array.getElem?_eq_getElem hi, Option.getD_some, Option.map_some, Bool.and_eq_true, Bool.not_eq_true'] at h2
    refine ⟨h1, by simp [hi, h2.1], fun k hk => ?_⟩
    have ew : (waits ops).getD i [] = (ops[i].after.toList.filter (Region.binds .any)).map (·.on) := by
      simp [waits, List.getD, h1]
    rw [ew, List.mem_map] at hk
    obtain ⟨ed, hed, rfl⟩ := hk
    rw [List.mem_filter] at hed
    have := (Array.all_eq_true' .. |>.1 h2.2) ed (by simpa using hed.1)
    simpa [hed.2] using this
  · rintro ⟨h1, h2, h3⟩
    refine ⟨h1, ?_⟩
    have e : ops[i]? = some (ops[i]) := Array.getElem?_eq_getElem h1
    have hi : i < listed.size := by omega
    rw [e]
    have h2' : listed.getD i true = false := by simpa [hi] using h2
    simp only [h2', Option.map_some, Option.getD_some, Bool.not_false, Bool.true_and]
    rw [Array.all_eq_true']
    intro ed hed
    by_cases hb : Region.binds .any ed = true
    · have ew : (waits ops).getD i [] = (ops[i].after.toList.filter (Region.binds .any)).map (·.on) := by
        simp [waits, List.getD, h1]
      have := h3 ed.on (by rw [ew, List.mem_map]; exact ⟨ed, by rw [List.mem_filter]; exact ⟨by simpa using hed, hb⟩, rfl⟩)
      simp [this]
    · simp [hb]

theorem listed_ran {listed : Array Bool} {i : Nat} (hi : i < listed.size) : (fun j => (listed.setIfInBounds i true).getD j false) = ran (fun j => listed.getD j false) i := by
  funext j
  unfold ran
  by_cases he : j = i
  · subst he; simp [hi]
  · rw [if_neg he]
    simp [Array.getElem?_setIfInBounds_ne (Ne.symm he)]

theorem wpAny_inv {D : List (List Nat)} (hD : waits ops = D) (hlow : ∀ i, ∀ k ∈ D.getD i [], k < i) (I : (Nat → Bool) → Act → World → Prop)
    (hstep : ∀ L a w i, i < ops.size → L i = false → (∀ k ∈ D.getD i [], L k = true) → (∀ j, L j = true → ∀ k ∈ D.getD j [], L k = true) → I L a w → wpOp P ops Q i (I (ran L i)) a w)
    (hend : ∀ L a w, (∀ i, i < ops.size → L i = true) → I L a w → Q .normal a w) :
    ∀ (fuel : Nat) (listed : Array Bool) (a : Act) (w : World), listed.size = ops.size → open_ (fun j => listed.getD j false) ops.size ≤ fuel →
      (∀ j, listed.getD j false = true → ∀ k ∈ D.getD j [], listed.getD k false = true) → I (fun j => listed.getD j false) a w → wpAny P .any ops Q fuel listed a w := by
  subst hD
  have hall : ∀ listed : Array Bool, listed.size = ops.size → Region.ready .any ops listed = [] → ∀ i, i < ops.size → listed.getD i false = true := by
    intro listed hs hr i
    induction i using Nat.strongRecOn with
    | ind i ih =>
      intro hi
      cases hL : listed.getD i false with
      | true => rfl
      | false =>
        have : i ∈ Region.ready .any ops listed := (mem_ready hs).2 ⟨hi, hL, fun k hk => ih k (hlow i k hk) (by have := hlow i k hk; omega)⟩
        rw [hr] at this
        cases this
  have hzero : ∀ (L : Nat → Bool) n, open_ L n ≤ 0 → ∀ j, j < n → L j = true := by
    intro L n
    induction n with
    | zero => intro _ j hj; omega
    | succ n ih =>
      intro h j hj
      rw [open_] at h
      by_cases he : j = n
      · subst he
        cases hL : L j with
        | true => rfl
        | false => rw [hL] at h; simp at h
      · exact ih (by omega) j (by omega)
  intro fuel
  induction fuel with
  | zero =>
    intro listed a w hs hc hcl hI
    have h := hzero _ _ hc
    refine ⟨?_, hend _ _ _ h hI⟩
    refine List.eq_nil_iff_forall_not_mem.2 fun i hi => ?_
    obtain ⟨h1, h2, _⟩ := (mem_ready hs).1 hi
    have h3 : listed.getD i false = true := h i h1
    rw [h2] at h3
    cases h3
  | succ fuel ih =>
    intro listed a w hs hc hcl hI
    refine ⟨fun hr => hend _ _ _ (hall listed hs hr) hI, fun i hi => ?_⟩
    obtain ⟨h1, h2, h3⟩ := (mem_ready hs).1 hi
    have hi' : i < listed.size := by omega
    refine wpOp_mono (fun a' w' hI' => ?_) (hstep _ a w i h1 h2 h3 hcl hI)
    have hr := listed_ran (listed := listed) hi'
    refine ih _ _ _ (by simpa using hs) ?_ ?_ ?_
    · rw [hr]
      have := open_ran (L := fun j => listed.getD j false) h2 ops.size h1
      omega
    · intro j hj k hk
      have hj' : ran (fun j => listed.getD j false) i j = true := by rw [← hr]; exact hj
      have : ran (fun j => listed.getD j false) i k = true := by
        unfold ran
        by_cases he : k = i
        · rw [if_pos he]
        · rw [if_neg he]
          by_cases hji : j = i
          · subst hji; exact h3 k hk
          · unfold ran at hj'
            rw [if_neg hji] at hj'
            exact hcl j hj' k hk
      rw [← hr] at this
      exact this
    · rw [hr]; exact hI'

theorem wp_region_inv {id : Nat} {a : Act} {w : World} (hm : P.follows .mixedOrders = true) {D : List (List Nat)} (hD : waits ops = D) (hlow : ∀ i, ∀ k ∈ D.getD i [], k < i) (I : (Nat → Bool) → Act → World → Prop)
    (hstart : I (fun _ => false) a w.drew)
    (hstep : ∀ L a w i, i < ops.size → L i = false → (∀ k ∈ D.getD i [], L k = true) → (∀ j, L j = true → ∀ k ∈ D.getD j [], L k = true) → I L a w → wpOp P ops Q i (I (ran L i)) a w)
    (hend : ∀ L a w, (∀ i, i < ops.size → L i = true) → I L a w → Q .normal a w) : (Code.region id ops true).wp P Q a w := by
  have e : (fun j => (Array.replicate ops.size false).getD j false) = fun _ => false := by
    funext j
    simp only [Array.getD_eq_getD_getElem?, Array.getElem?_replicate]
    split <;> rfl
  refine wp_region_any hm (wpAny_inv hD hlow I hstep hend _ _ _ _ (by simp) ?_ ?_ ?_)
  · have : ∀ (L : Nat → Bool) n, open_ L n ≤ n := by
      intro L n
      induction n with
      | zero => exact Nat.le_refl _
      | succ n ih => rw [open_]; split <;> omega
    exact this _ _
  · intro j hj
    have := congrFun e j
    rw [this] at hj
    cases hj
  · rw [e]; exact hstart
end
end Go.Proofs.Ytjbachplnkonkaa
