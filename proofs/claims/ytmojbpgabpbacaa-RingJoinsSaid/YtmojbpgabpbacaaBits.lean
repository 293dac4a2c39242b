/- Bits of numbers, as the walk spells them. No program in sight. -/
import Derived.Test.YtmojbpgabpbacaaPars
import Derived.Laws.BitsAllLaws
namespace Go.Proofs.Ytmojbpgabpbacaa

theorem or_add (a y k : Nat) (h : a < 2 ^ k) : a ||| y * 2 ^ k = a + y * 2 ^ k := by
  have := Nat.two_pow_add_eq_or_of_lt h y
  rw [Nat.or_comm, Nat.mul_comm y, ← this, Nat.add_comm]
theorem u8_and127' (x : Nat) (hx : x < 256) : bits .and .u8 (x : Int) 127 = ((x % 128 : Nat) : Int) := by
  have h := u8_and_nat x 127 hx (by decide)
  have h2 : x &&& 127 = x % 128 := Nat.and_two_pow_sub_one_eq_mod x 7
  rw [h2] at h
  exact h
theorem pow128 (m : Nat) : 128 ^ m = 2 ^ (7 * m) := by rw [Nat.pow_mul]
theorem var_lt (m acc x : Nat) (hm : m ≤ 9) (ha : acc < 128 ^ m) (h9 : m = 9 → x ≤ 1) : acc + x % 128 * 128 ^ m < 18446744073709551616 := by
  have hx : x % 128 < 128 := Nat.mod_lt _ (by decide)
  have hx9 : m = 9 → x % 128 ≤ 1 := fun h => by have := h9 h; omega
  generalize x % 128 = y at *
  have : m = 0 ∨ m = 1 ∨ m = 2 ∨ m = 3 ∨ m = 4 ∨ m = 5 ∨ m = 6 ∨ m = 7 ∨ m = 8 ∨ m = 9 := by omega
  rcases this with rfl | rfl | rfl | rfl | rfl | rfl | rfl | rfl | rfl | rfl <;> simp at ha hx9 ⊢ <;> omega
theorem var_next (m acc x : Nat) (ha : acc < 128 ^ m) : acc + x % 128 * 128 ^ m < 128 ^ (m + 1) := by
  have hx : x % 128 < 128 := Nat.mod_lt _ (by decide)
  rw [Nat.pow_succ]
  have h1 : x % 128 * 128 ^ m ≤ 127 * 128 ^ m := Nat.mul_le_mul_right _ (by omega)
  omega
/-- 'n |= uint64(b&127) << (7 * i)'. -/
theorem var_bits (m acc x : Nat) (hm : m ≤ 9) (ha : acc < 128 ^ m) (hx : x < 256) (h9 : m = 9 → x ≤ 1) :
    bits .or .u64 (acc : Int) (IntKind.u64.wrap (IntKind.u64.wrap (bits .and .u8 (x : Int) 127) * 2 ^ (7 * m))) = ((acc + x % 128 * 128 ^ m : Nat) : Int) := by
  have hl := var_lt m acc x hm ha h9
  have e0 : IntKind.u64.wrap ((x % 128 : Nat) : Int) = ((x % 128 : Nat) : Int) := IntWalk.u64_in _ (by have := Nat.mod_lt x (show 0 < 128 by decide); omega)
  rw [u8_and127' x hx, e0]
  rw [pow128] at ha hl ⊢
  have e : ((x % 128 : Nat) : Int) * 2 ^ (7 * m) = ((x % 128 * 2 ^ (7 * m) : Nat) : Int) := by simp
  rw [e, IntWalk.u64_in _ (by omega), u64_or_nat _ _ (by omega) (by omega), or_add _ _ _ ha]
theorem var_bits9 (acc x : Nat) (ha : acc < 128 ^ 9) (hx : x ≤ 1) :
    bits .or .u64 (acc : Int) (IntKind.u64.wrap (IntKind.u64.wrap (bits .and .u8 (x : Int) 127) * 9223372036854775808)) = ((acc + x % 128 * 128 ^ 9 : Nat) : Int) := by
  have h := var_bits 9 acc x (by decide) ha (by omega) (fun _ => hx)
  have e : (2 : Int) ^ (7 * 9) = 9223372036854775808 := by decide
  rw [e] at h
  exact h
end Go.Proofs.Ytmojbpgabpbacaa
