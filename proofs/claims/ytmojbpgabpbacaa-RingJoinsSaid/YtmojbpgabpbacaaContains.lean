/- slices.Contains of texts; ring.round. -/
import Derived.Test.YtmojbpgabpbacaaOwners0
namespace Go.Proofs.Ytmojbpgabpbacaa
open Go.RowKit

theorem mem_drop (xs : List Bytes) (v : Bytes) (k : Nat) (hk : k < xs.length) : (v ∈ xs.drop k) ↔ (v = xs[k] ∨ v ∈ xs.drop (k + 1)) := by
  rw [List.drop_eq_getElem_cons hk, List.mem_cons]
set_option maxHeartbeats 800000 in
theorem indexStr_w (w : World) (ok : Nat → Prop) (s : Value) (xs : List Bytes) (v : Bytes) (h : Kd.str.At w ok s xs) :
    Calls Try.prog 86 #[s, vStr v] w fun r w' => ∃ i : Int, r = .returned (.int .i64 i) ∧ (0 ≤ i ↔ v ∈ xs) ∧ w = w' := by
  refine calls_hide fun K hK => ?_
  obtain ⟨A, c, rfl, hc, hm, h⟩ := h
  unfold maxLen at hm
  go_enter Try.func86, Try.ntmps86
  go_wp2
  go_loopw [8] (fun i wr => ∃ k : Nat, i = vInt k ∧ k ≤ xs.length ∧ Hid (v ∈ xs ↔ v ∈ xs.drop k) ∧ wr = w) (fun i _ => xs.length - (intOf i).toNat)
  case atStart => exact ⟨0, rfl, by omega, hide Iff.rfl, rfl⟩
  case round =>
    obtain ⟨k, rfl, hk, hp, rfl⟩ := hrel
    by_cases hlt : k < xs.length
    · obtain ⟨b, o, rfl, _, hbb⟩ := h.addr (by omega)
      have c0 := Kd.str_cell h hlt
      have hd := hide (mem_drop xs v k hlt)
      by_cases he : v = xs[k]
      · have q : (v == xs[k]) = true := by simp [he]
        have He := hide he
        clear he
        go_wp2
        exact hK.out _ _ ⟨k, rfl, ⟨fun _ => hp.out.2 (hd.out.2 (.inl He.out)), fun _ => by omega⟩, rfl⟩
      · have q : (v == xs[k]) = false := by simp [he]
        go_wp2
        go_roundw
        case rel => exact ⟨k + 1, by go_num, by omega, hide (hp.out.trans (hd.out.trans ⟨fun h => h.resolve_left he, .inr⟩)), trivial⟩
        case measure => simp [intOf]; omega
    · go_wp2
      refine hK.out _ _ ⟨-1, rfl, ?_, rfl⟩
      rw [hp.out, List.drop_of_length_le (by omega)]
      simp
set_option maxHeartbeats 800000 in
theorem containsStr_w (w : World) (ok : Nat → Prop) (s : Value) (xs : List Bytes) (v : Bytes) (h : Kd.str.At w ok s xs) :
    Calls Try.prog 43 #[s, vStr v] w fun r w' => r = .returned (.bool (decide (v ∈ xs))) ∧ w = w' := by
  refine calls_hide fun K hK => ?_
  go_enter Try.func43, Try.ntmps43
  go_wp2_with (go_at_call 86; refine (indexStr_w _ _ _ _ _ h).mono ?_; rintro e w' ⟨i, rfl, hi, rfl⟩)
  exact hK.out _ _ ⟨rfl, rfl⟩

set_option maxHeartbeats 800000 in
theorem ringRound_w (w : World) (A : Option Addr) (n c : Nat) (key : Nat) :
    Calls Try.prog 42 #[.slice A n c, vU64 key] w fun r w' => ∃ b1 b2, r = .returned (.func (.func 83) #[] #[vPtr b1, vPtr b2]) ∧ w.heap.size ≤ b1 ∧ b1 < b2 ∧ Blk w' b1 85 [.slice A n c] ∧ Blk w' b2 23 [vU64 key] ∧ w' = (w.alloc (.cells #[.slice A n c] 85)).alloc (.cells #[vU64 key] 23) := by
  refine calls_hide fun K hK => ?_
  go_enter Try.func42, Try.ntmps42
  go_wp2
  exact hK.out _ _ ⟨w.heap.size, w.heap.size + 1, rfl, Nat.le_refl _, by omega, (Blk.new w _ [.slice A n c]).alloc _, (by have h := Blk.new (w.alloc (.cells #[.slice A n c] 85)) 23 [vU64 key]; rwa [World.size_alloc] at h), rfl⟩
end Go.Proofs.Ytmojbpgabpbacaa
