/- Plain mathematics of chapter 12: hashes, places, bits. No program in sight. -/
import Derived.Test.YtpfladolkkhfdaaLaws
import Derived.Laws.BitsAllLaws
namespace Go.Proofs.Ytpfladolkkhfdaa
set_option linter.unusedVariables false
open Go.RowKit

def hstep (h : Nat) (b : UInt8) : Nat := (h ^^^ b.toNat) * 1099511628211 % 18446744073709551616
def hash (l : List UInt8) : Nat := l.foldl hstep 14695981039346656037
theorem hstep_lt (h : Nat) (b : UInt8) : hstep h b < 18446744073709551616 := Nat.mod_lt _ (by decide)
theorem hash_lt (l : List UInt8) : hash l < 18446744073709551616 := by
  unfold hash
  rcases List.eq_nil_or_concat l with rfl | ⟨m, x, rfl⟩
  · decide
  · rw [List.concat_eq_append, List.foldl_append, List.foldl_cons, List.foldl_nil]; exact hstep_lt _ _
theorem hash_take {l : List UInt8} {k : Nat} (h : k < l.length) : hash (l.take (k + 1)) = hstep (hash (l.take k)) l[k] := by
  unfold hash
  rw [List.take_succ_eq_append_getElem h, List.foldl_append, List.foldl_cons, List.foldl_nil]

/-- The step between places: odd. -/
def odd (h : Nat) : Nat := if h % 2 = 0 then h % 4294967296 + 1 else h % 4294967296
def place (l : List UInt8) (k bits : Nat) : Nat := (hash l / 4294967296 + k * odd (hash l)) % bits
theorem place_lt (l : List UInt8) (k : Nat) {bits : Nat} (h : 0 < bits) : place l k bits < bits := Nat.mod_lt _ h
theorem odd_lt (h : Nat) : odd h < 4294967296 := by unfold odd; split <;> omega
theorem or_one (n : Nat) : n ||| 1 = if n % 2 = 0 then n + 1 else n := by
  have h1 : n = 2 * (n / 2) + n % 2 := by omega
  have h2 : (n ||| 1) / 2 = n / 2 := by
    rw [Nat.or_div_two]; simp
  have h3 : (n ||| 1) % 2 = 1 := by
    rw [Nat.or_mod_two_eq_one]; simp
  split <;> omega
theorem odd_eq (h : Nat) : (h % 4294967296) ||| 1 = odd h := by
  rw [or_one, odd]
  have : h % 4294967296 % 2 = h % 2 := by omega
  rw [this]

/-- One bit on. -/
def setBit (f : List UInt8) (p : Nat) : List UInt8 := f.set (p / 8) (f.getD (p / 8) 0 ||| (1 <<< UInt8.ofNat (p % 8)))
def bitAt (f : List UInt8) (p : Nat) : Bool := (f.getD (p / 8) 0).toNat.testBit (p % 8)
def sizeOf' (n : Nat) : Nat := 8 * ((10 * n + 63) / 64)
def setWord (w : List UInt8) (f : List UInt8) : List UInt8 := setBit (setBit (setBit f (place w 0 (8 * f.length))) (place w 1 (8 * f.length))) (place w 2 (8 * f.length))
theorem setBit_len (f : List UInt8) (p : Nat) : (setBit f p).length = f.length := by simp [setBit]
theorem setWord_len (w f : List UInt8) : (setWord w f).length = f.length := by simp [setWord, setBit_len]
def fill (ws : List (List UInt8)) (f : List UInt8) : List UInt8 := ws.foldl (fun f w => setWord w f) f
theorem fill_len (ws : List (List UInt8)) : ∀ f, (fill ws f).length = f.length := by
  induction ws with
  | nil => intro f; rfl
  | cons w r ih => intro f; exact (ih _).trans (setWord_len _ _)
theorem fill_take {ws : List (List UInt8)} {k : Nat} (h : k < ws.length) (f : List UInt8) : fill (ws.take (k + 1)) f = setWord ws[k] (fill (ws.take k) f) := by
  unfold fill
  rw [List.take_succ_eq_append_getElem h, List.foldl_append, List.foldl_cons, List.foldl_nil]
def has (f w : List UInt8) : Bool := decide (f ≠ []) && bitAt f (place w 0 (8 * f.length)) && bitAt f (place w 1 (8 * f.length)) && bitAt f (place w 2 (8 * f.length))

/-- The distinct ones of the first k: how many. -/
def dist (ws : List (List UInt8)) : List (List UInt8) := ws.foldl (fun acc w => if w ∈ acc then acc else acc ++ [w]) []
def make (ws : List (List UInt8)) : List UInt8 := fill ws (List.replicate (sizeOf' (dist ws).length) 0)

/-! a byte's or, and what the model says of it -/
theorem shl_val (b : Nat) (hb : b < 8) : (1 <<< UInt8.ofNat b : UInt8).toNat = 2 ^ b := by
  match b, hb with
  | 0, _ => rfl
  | 1, _ => rfl
  | 2, _ => rfl
  | 3, _ => rfl
  | 4, _ => rfl
  | 5, _ => rfl
  | 6, _ => rfl
  | 7, _ => rfl
end Go.Proofs.Ytpfladolkkhfdaa
