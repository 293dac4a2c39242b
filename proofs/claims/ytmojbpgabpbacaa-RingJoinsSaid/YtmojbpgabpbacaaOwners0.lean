/- slices.Contains of texts; the binary search of places. -/
import Derived.Test.YtmojbpgabpbacaaSorted
namespace Go.Proofs.Ytmojbpgabpbacaa
open Go.RowKit

theorem place_cells {w : World} {ok : Nat → Prop} {b o k : Nat} {xs : List Place} (h : Kd.place.Row w ok (some ⟨b, o, none⟩) xs) (hk : k < xs.length) :
    w.cell? ⟨b, o + k * 2, none⟩ = some (vU64 xs[k].token) ∧ w.cell? ⟨b, o + k * 2 + 1, none⟩ = some (vStr xs[k].name) := by
  obtain ⟨cs, e, hc⟩ := h.elem' hk
  have e : cs = [vU64 xs[k].token, vStr xs[k].name] := e
  subst e
  exact ⟨hc 0 _ rfl, hc 1 _ rfl⟩

set_option maxHeartbeats 800000 in
theorem cmp85_w (w : World) (x : Place) (key : Nat) : Calls Try.prog 85 #[vPlace x, vU64 key] w fun r w' => r = .returned (.int .i64 (cmpN x.token key)) ∧ Ch [] w w' := by
  refine calls_hide fun K hK => ?_
  go_enter Try.func85, Try.ntmps85
  go_wp2_with (go_at_call 41; refine (compare_w _ _ _).mono ?_; rintro e w' ⟨rfl, rfl⟩)
  exact hK.out _ _ ⟨rfl, (Ch.refl _ _).alloc _⟩

abbrev vKey : Value := .func (.func 85) #[] #[]
set_option maxHeartbeats 1600000 in
theorem search_w (w : World) (ok : Nat → Prop) (v : Value) (xs : List Place) (key : Nat) (hbig : xs.length ≤ 1000000) (h : Kd.place.At w ok v xs) :
    Calls Try.prog 84 #[v, vU64 key, vKey] w fun r w' => ∃ (i : Nat) (f : Bool), r = .returned (.tuple #[vInt i, .bool f]) ∧ i ≤ xs.length ∧ (∀ x, xs[i - 1]? = some x → 0 < i → x.token < key) ∧ (∀ x, xs[i]? = some x → key ≤ x.token) ∧ Ch [] w w' := by
  refine calls_hide fun K hK => ?_
  obtain ⟨A, c, rfl, hc, hm, h⟩ := h
  unfold maxLen at hm
  go_enter Try.func84, Try.ntmps84
  go_wp2
  go_loopw [9, 10] (fun iv jv wr => ∃ i j : Nat, iv = vInt i ∧ jv = vInt j ∧ i ≤ j ∧ j ≤ xs.length ∧ Hid (∀ x, xs[i - 1]? = some x → 0 < i → x.token < key) ∧ Hid (∀ x, xs[j]? = some x → key ≤ x.token) ∧ Ch [] w wr) (fun i j _ => (intOf j).toNat - (intOf i).toNat)
  case atStart => exact ⟨0, xs.length, rfl, rfl, Nat.zero_le _, Nat.le_refl _, hide (by omega), hide (by simp), Ch.refl _ _⟩
  case round =>
    obtain ⟨i, j, rfl, rfl, hij, hjl, hlo, hhi, hch⟩ := hrel
    by_cases hlt : i < j
    · have l1 : (i : Int) < j := by omega
      obtain ⟨b, o, rfl, _, hbb⟩ := h.addr (by omega)
      obtain ⟨m, hm2⟩ : ∃ m, (i + j) / 2 = m := ⟨_, rfl⟩
      have q2 : ((i : Int) + j) / 2 = (m : Int) := by omega
      have hml : m < xs.length := by omega
      have l2 : (m : Int) < (xs.length : Int) := by omega
      obtain ⟨c0, c1⟩ := place_cells (h.ch0 hch) hml
      obtain ⟨x, hx⟩ : ∃ x, xs[m] = x := ⟨_, rfl⟩
      rw [hx] at c0 c1
      by_cases hless : x.token < key
      · have hneg : cmpN x.token key < 0 := by unfold cmpN; rw [if_pos hless]; decide
        go_wp2_with (go_at_call 85; refine (cmp85_w _ _ _).mono ?_; rintro e w' ⟨rfl, hch2⟩)
        go_roundw
        case rel => exact ⟨m + 1, j, by go_num, rfl, by omega, hjl, hide (fun y hy _ => by rw [Nat.add_sub_cancel, List.getElem?_eq_getElem hml, hx] at hy; rw [← Option.some.inj hy]; exact hless), hhi, hch.trans0 hch2⟩
        case measure => simp only [intOf]; omega
      · have hneg : ¬ cmpN x.token key < 0 := by unfold cmpN; rw [if_neg hless]; split <;> decide
        go_wp2_with (go_at_call 85; refine (cmp85_w _ _ _).mono ?_; rintro e w' ⟨rfl, hch2⟩)
        go_roundw
        case rel => exact ⟨i, m, rfl, by go_num, by omega, by omega, hlo, hide (fun y hy => by rw [List.getElem?_eq_getElem hml, hx] at hy; rw [← Option.some.inj hy]; omega), hch.trans0 hch2⟩
        case measure => simp only [intOf]; omega
    · obtain rfl : i = j := by omega
      by_cases hil : i < xs.length
      · have l3 : (i : Int) < (xs.length : Int) := by omega
        obtain ⟨b, o, rfl, _, hbb⟩ := h.addr (by omega)
        obtain ⟨c0, c1⟩ := place_cells (h.ch0 hch) hil
        go_wp2_with (go_at_call 85; refine (cmp85_w _ _ _).mono ?_; rintro e w' ⟨rfl, hch2⟩)
        exact hK.out _ _ ⟨i, _, rfl, hjl, hlo.out, hhi.out, hch.trans0 hch2⟩
      · have l3 : ¬ (i : Int) < (xs.length : Int) := by omega
        go_wp2
        exact hK.out _ _ ⟨i, _, rfl, hjl, hlo.out, hhi.out, hch⟩
end Go.Proofs.Ytmojbpgabpbacaa
