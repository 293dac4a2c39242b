/- Lists of places: exchanges. Plain Lean. -/
import Derived.WalkKit
namespace Go.Proofs.Ytmojbpgabpbacaa
section
variable {α : Type}
/-- Of s the ranges of length k from a and from b are t's, exchanged. -/
def Swapped (t s : List α) (a b k : Nat) : Prop := s.length = t.length ∧ ∀ x, s[x]? = if a ≤ x ∧ x < a + k then t[x - a + b]? else if b ≤ x ∧ x < b + k then t[x - b + a]? else t[x]?
theorem Swapped.start (t : List α) (a b : Nat) : Swapped t t a b 0 := ⟨rfl, fun x => by rw [if_neg (by omega), if_neg (by omega)]⟩
theorem Swapped.next {t s s' : List α} {a b k : Nat} (h : Swapped t s a b k) (hab : a + k < b) (hl : s'.length = s.length) (hs : ∀ x, s'[x]? = if x = a + k then s[b + k]? else if x = b + k then s[a + k]? else s[x]?) : Swapped t s' a b (k + 1) := by
  refine ⟨hl.trans h.1, fun x => ?_⟩
  rw [hs, h.2, h.2, h.2]
  have c1 : x = a + k ∨ x = b + k ∨ (a ≤ x ∧ x < a + k) ∨ (b ≤ x ∧ x < b + k) ∨ (x ≠ a + k ∧ x ≠ b + k ∧ ¬(a ≤ x ∧ x < a + k) ∧ ¬(b ≤ x ∧ x < b + k)) := by omega
  rcases c1 with h1 | h1 | h1 | h1 | h1 <;> (repeat (first | rw [if_pos (by omega)] | rw [if_neg (by omega)])) <;> (try (congr 1; omega))
theorem get_app {A B : List α} (x : Nat) : (A ++ B)[x]? = if x < A.length then A[x]? else B[x - A.length]? := List.getElem?_append
theorem Swapped.lists {A P M Q B s : List α} {a b n : Nat} (h : Swapped (A ++ (P ++ (M ++ (Q ++ B)))) s a b n) (hA : A.length = a) (hP : P.length = n) (hM : a + n + M.length = b) (hQ : Q.length = n) : s = A ++ (Q ++ (M ++ (P ++ B))) := by
  apply List.ext_getElem?
  intro x
  rw [h.2]
  simp only [get_app, hA, hP, hQ]
  have c1 : x < a ∨ (a ≤ x ∧ x < a + n) ∨ (a + n ≤ x ∧ x < b) ∨ (b ≤ x ∧ x < b + n) ∨ b + n ≤ x := by omega
  rcases c1 with h1 | h1 | h1 | h1 | h1 <;> (repeat (first | rw [if_pos (by omega)] | rw [if_neg (by omega)])) <;> (try (congr 1; omega))
end
end Go.Proofs.Ytmojbpgabpbacaa
