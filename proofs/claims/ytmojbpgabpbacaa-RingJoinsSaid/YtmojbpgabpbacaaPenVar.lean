/- Package varint: what it writes. -/
import Derived.Test.YtmojbpgabpbacaaPenText
import Derived.Test.YtmojbpgabpbacaaBits
namespace Go.Proofs.Ytmojbpgabpbacaa
open Go.RowKit

def eVar (n : Nat) : Bytes := if n ≤ 127 then [UInt8.ofNat n] else UInt8.ofNat (n % 128 + 128) :: eVar (n / 128)
termination_by n
theorem eVar_small {n : Nat} (h : n ≤ 127) : eVar n = [UInt8.ofNat n] := by rw [eVar, if_pos h]
theorem eVar_big {n : Nat} (h : ¬ n ≤ 127) : eVar n = UInt8.ofNat (n % 128 + 128) :: eVar (n / 128) := by rw [eVar, if_neg h]
theorem eVar_len (k n : Nat) (h : n < 128 ^ k) (hk : 0 < k) : (eVar n).length ≤ k := by
  induction k generalizing n with
  | zero => omega
  | succ k ih =>
    by_cases hn : n ≤ 127
    · rw [eVar_small hn]; simp
    · rw [eVar_big hn, List.length_cons]
      have h1 : n / 128 < 128 ^ k := by rw [Nat.pow_succ, Nat.mul_comm] at h; exact Nat.div_lt_of_lt_mul h
      have hk : 0 < k := by
        rcases Nat.eq_zero_or_pos k with rfl | h0
        · simp at h1; omega
        · exact h0
      have := ih _ h1 hk
      omega

theorem u8_or128 (n : Nat) : bits .or .u8 ((n : Int) % 256) 128 = ((UInt8.ofNat (n % 128 + 128)).toNat : Int) := by
  have h : ∀ x : BitVec 8, (x ||| 128#8).toNat = x.toNat % 128 + 128 := by decide
  have h1 := h (BitVec.ofNat 8 n)
  have e : ((n : Int) % 256) = ((n % 256 : Nat) : Int) := by omega
  rw [e]
  have h3 : bits .or .u8 ((n % 256 : Nat) : Int) 128 = _ := u8_or_nat (n % 256) 128 (by omega) (by decide)
  rw [h3, UInt8.toNat_ofNat', show (2 : Nat) ^ 8 = 256 by decide, Nat.mod_eq_of_lt (a := n % 128 + 128) (by omega)]
  have h2 := h1
  simp only [BitVec.toNat_or, BitVec.toNat_ofNat] at h2
  rw [show (2 : Nat) ^ 8 = 256 by decide] at h2
  rw [show n % 256 ||| 128 = n % 256 % 128 + 128 from h2]
  omega
set_option maxHeartbeats 800000 in
theorem varBytes_w (w : World) (n : Nat) (hn : n < 18446744073709551616) :
    Calls Try.prog 128 #[vU64 n] w fun r w' => ∃ v, r = .returned v ∧ Kd.u8.At w' (fun k => w.heap.size ≤ k) v (eVar n) ∧ Ch [] w w' := by
  refine calls_hide fun K hK => ?_
  go_enter Try.func128, Try.ntmps128
  go_wp2
  go_loopw [0, 3] (fun nv v wr => ∃ (n1 : Nat) (xs : Bytes), nv = vU64 n1 ∧ Kd.u8.Own 5 wr w.heap.size (fun k => w.heap.size ≤ k) v xs ∧ n1 < 18446744073709551616 ∧ xs.length ≤ 10 ∧ n1 < 128 ^ (10 - xs.length) ∧ Ch [] w wr ∧ eVar n = xs ++ eVar n1) (fun nv _ _ => (intOf nv).toNat)
  case atStart => exact ⟨n, [], rfl, Kd.Own.nil _ _ _ _ _, hn, by decide, Nat.lt_of_lt_of_le hn (by decide), Ch.refl _ _, rfl⟩
  case round =>
    obtain ⟨n1, xs, rfl, hown, hn1, hx, hpow, hch, he⟩ := hrel
    obtain ⟨A, c, rfl⟩ := hown.form
    have hx9 : 127 < n1 → xs.length < 9 := fun hl => by
      by_cases h9 : xs.length < 9
      · exact h9
      · have : 128 ^ (10 - xs.length) ≤ 128 ^ 1 := Nat.pow_le_pow_right (by decide) (by omega)
        omega
    by_cases hl : 127 < n1
    · have l1 : (127 : Int) < (n1 : Int) := by omega
      obtain ⟨y, hy⟩ : ∃ y, UInt8.ofNat (n1 % 128 + 128) = y := ⟨_, rfl⟩
      have q := u8_or128 n1
      rw [hy] at q
      have Hy := hide hy
      clear hy
      go_wp2_with (first
        | (at_builtin; refine Kd.wpList_append Kd.u8 rfl (.tmp 6) (.tmp 10) 159 5 _ 1 rfl Try.underlying159 Try.infoU8 rfl (by decide) (by decide) (v := .slice A xs.length c) rfl rfl rfl (p := y) (cs := [vByte y.toNat]) rfl hown hch.size (by omega) ?_; intro v1 w7 hown7 hch7 hat7; obtain ⟨A7, c7, rfl⟩ := form2 hown7))
      go_roundw
      case rel =>
        refine ⟨n1 / 128, xs ++ [y], rfl, hown7, by omega, by simp; omega, ?_, (hch.trans hch7 (fun t ht => .inr (by have := hown.block t (by simpa using ht); omega))), by rw [he, eVar_big (by omega), Hy.out, List.append_assoc]; rfl⟩
        rw [List.length_append, List.length_singleton]
        have e : 10 - xs.length = (10 - (xs.length + 1)) + 1 := by omega
        rw [e, Nat.pow_succ, Nat.mul_comm] at hpow
        exact Nat.div_lt_of_lt_mul hpow
      case measure => simp [intOf]; omega
    · obtain ⟨y, rfl⟩ : ∃ y : UInt8, n1 = y.toNat := ⟨UInt8.ofNat n1, by rw [UInt8.toNat_ofNat']; omega⟩
      have l1 : ¬ (127 : Int) < (y.toNat : Int) := by omega
      go_wp2_with (first
        | (at_builtin; refine Kd.wpList_append Kd.u8 rfl (.tmp 14) (.tmp 17) 159 5 _ 1 rfl Try.underlying159 Try.infoU8 rfl (by decide) (by decide) (v := .slice A xs.length c) rfl rfl rfl (p := y) (cs := [vByte y.toNat]) rfl hown hch.size (by omega) ?_; intro v1 w7 hown7 hch7 hat7; obtain ⟨A7, c7, rfl⟩ := form2 hown7))
      refine hK.out _ _ ⟨_, rfl, ?_, (hch.trans hch7 (fun t ht => .inr (by have := hown.block t (by simpa using ht); omega)))⟩
      rw [he, eVar_small (by omega), UInt8.ofNat_toNat]
      exact hown7.at'

theorem eVar_le (n : Nat) (h : n < 18446744073709551616) : (eVar n).length ≤ 10 := eVar_len 10 n (Nat.lt_of_lt_of_le h (by decide)) (by decide)
theorem kd_u64 {w : World} {ok : Nat → Prop} (n : Nat) : Kd.u64.K w ok n [vU64 n] := rfl
theorem kd_str {w : World} {ok : Nat → Prop} (s : Bytes) : Kd.str.K w ok s [vStr s] := rfl
theorem kd_u8 {w : World} {ok : Nat → Prop} (s : UInt8) : Kd.u8.K w ok s [vByte s.toNat] := rfl
/-- A box of one element, laid by the caller, is none of the pen's. -/
theorem Pen.boxed {w : World} {b m : Nat} {R : List Nat} {out : Bytes} {e : Int} (h : Pen w b m R out e) {B : Nat} (hB : w.heap.size = B) : ∀ k, k = B → k ∉ b :: R := fun k hk hm => by
  subst hk hB
  rcases List.mem_cons.1 hm with h1 | h1
  · have := h.lt; omega
  · have := h.rowlt _ h1; omega
theorem boxed {α : Type} (d : Kd α) (w : World) (t : TypeId) {x : α} {cs : List Value} {B : Nat} (hB : w.heap.size = B) (hk : d.K w (fun k => k = B) x cs) : d.At (w.alloc (.cells cs.toArray t)) (fun k => k = B) (.slice (some ⟨B, 0, none⟩) 1 1) [x] := by
  subst hB
  exact Kd.one_at_ d w t hk rfl
/-- What a callee that was handed the box wrote. -/
theorem Wr.box {w w2 : World} {b m : Nat} {R R2 : List Nat} {out t out2 : Bytes} {e e2 : Int} {o : Go.Obj} (h : Wr (w.alloc o) w2 b m R out e t R2 out2 e2) : Wr w w2 b m R out e t R2 out2 e2 := Wr.pre ((Ch.refl _ _).alloc o) h

set_option maxHeartbeats 1600000 in
theorem varPut_w (w : World) (ok : Nat → Prop) (b m : Nat) (R : List Nat) (out : Bytes) (e : Int) (l : Value) (ns : List Nat) (hns : ∀ n ∈ ns, n < 18446744073709551616) (h : Pen w b m R out e) (hl : Kd.u64.At w ok l ns) (hok : ∀ k, ok k → k ∉ b :: R) :
    Calls Try.prog 78 #[vPtr b, l] w fun r w' => r = .returned vUnit ∧ ∃ R' out' e', Wr w w' b m R out e (ns.map eVar).flatten R' out' e' := by
  refine calls_hide fun K hK => ?_
  obtain ⟨A, c, rfl, hc, hm, hrow⟩ := hl
  unfold maxLen at hm
  go_enter Try.func78, Try.ntmps78
  go_wp2
  go_loopw [8] (fun i wr => ∃ k R1 o1 e1, i = vInt k ∧ k ≤ ns.length ∧ Wr w wr b m R out e ((ns.take k).map eVar).flatten R1 o1 e1) (fun i _ => ns.length - (intOf i).toNat)
  case atStart => exact ⟨0, R, out, e, rfl, by omega, by simpa using Wr.refl h⟩
  case round =>
    obtain ⟨k, R1, o1, e1, rfl, hk, hw⟩ := hrel
    by_cases hlt : k < ns.length
    · obtain ⟨g, o, rfl, hg, hgl⟩ := hrow.addr (by omega)
      have c0 := Kd.u64_cell (hrow.ch hw.ch (fun k h1 _ => hok k h1)) hlt
      have htk : ((ns.take (k + 1)).map eVar).flatten = ((ns.take k).map eVar).flatten ++ [eVar ns[k]].flatten := by rw [List.take_succ_eq_append_getElem hlt, List.map_append, List.flatten_append]; rfl
      have hn := hns _ (List.getElem_mem hlt)
      have hlen := eVar_le _ hn
      go_wp2_with fail
      refine (varBytes_w _ _ hn).mono ?_
      rintro r w1 ⟨v, rfl, hv, hch1⟩
      have ht := run_text (P := Try.prog) 159 9 5 Try.underlying159 Try.underlying5 Try.underlying9 hv
      obtain ⟨Av, cv, rfl, -⟩ := hv
      have hp := hw.pen.ch0 hch1
      go_wp2_with (first
        | (go_at_call 127; refine (penText_w _ _ _ _ _ _ _ _ [eVar ns[k]] (by simp; omega) (hp.ch0 ((Ch.refl _ _).alloc _)) (boxed Kd.str w1 9 (by simp) (kd_str _)) (hp.boxed (by simp))).mono ?_; rintro e w' ⟨rfl, R2, o2, e2, hW⟩))
      go_roundw
      case rel => exact ⟨k + 1, _, _, _, by go_num, by omega, hw.seq' (hW.box.pre hch1) htk⟩
      case measure => simp [intOf]; omega
    · go_wp2
      go_end0
      have : ns.take k = ns := List.take_of_length_le (by omega)
      rw [this] at hw
      exact hK.out _ _ ⟨rfl, R1, o1, e1, hw⟩
end Go.Proofs.Ytmojbpgabpbacaa
