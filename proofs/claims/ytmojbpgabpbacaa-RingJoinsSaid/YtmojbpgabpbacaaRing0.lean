/- ring.rising and ring.Check. -/
import Derived.Test.YtmojbpgabpbacaaProg
import Derived.Test.YtmojbpgabpbacaaKinds
namespace Go.Proofs.Ytmojbpgabpbacaa
open Go.RowKit

theorem risingN_iff (l : List Nat) : risingN l = true ↔ ∀ k, (h : k + 1 < l.length) → l[k] < l[k + 1] := by
  induction l with
  | nil => simp [risingN]
  | cons a r ih =>
    cases r with
    | nil => simp [risingN]
    | cons b r =>
      simp only [risingN, Bool.and_eq_true, decide_eq_true_eq, ih]
      constructor
      · rintro ⟨h1, h2⟩ k hk
        cases k with
        | zero => exact h1
        | succ k => exact h2 k (by simpa using hk)
      · intro h
        exact ⟨h 0 (by simp), fun k hk => h (k + 1) (by simpa using hk)⟩

set_option maxHeartbeats 400000 in
theorem rising_w (w : World) (ok : Nat → Prop) (v : Value) (xs : List Nat) (h : Kd.u64.At w ok v xs) :
    Calls Try.prog 80 #[v] w fun r w' => r = .returned (.bool (risingN xs)) ∧ Drawn w w' := by
  refine calls_hide fun K hK => ?_
  obtain ⟨A, c, rfl, hc, hm, h⟩ := h
  unfold maxLen at hm
  go_enter Try.func80, Try.ntmps80
  go_wp2
  go_loopw [3] (fun i wr => ∃ k : Nat, i = .int .i64 (k + 1 : Nat) ∧ (k ≤ xs.length) ∧ (∀ j, (hj : j < k) → (hl : j + 1 < xs.length) → xs[j] < xs[j + 1]) ∧ Drawn w wr) (fun i _ => xs.length - (intOf i).toNat)
  case atStart => exact ⟨0, rfl, by omega, fun j hj => absurd hj (by omega), Drawn.refl w⟩
  case round =>
    obtain ⟨k, rfl, hk, hr, n, rfl⟩ := hrel
    have Hr := hide hr
    clear hr
    by_cases hlt : k + 1 < xs.length
    · obtain ⟨b, o, rfl, _, _⟩ := h.addr (by omega)
      have q0 := Kd.u64_cell h (k := k) (by omega)
      have q1 := Kd.u64_cell h hlt
      have e2 : ((k : Int) + 1).toNat = k + 1 := by omega
      have b1 : (0:Int) ≤ (k : Int) + 1 := by omega
      have b2 : (k : Int) + 1 < (xs.length : Int) := by omega
      have b3 : (k : Int) < (xs.length : Int) := by omega
      go_wp2
      go_quiet (fail)
      go_wp2
      · refine hK.out _ _ ⟨?_, (Drawn.of w n).drewN _⟩
        have : risingN xs = false := by
          rw [← Bool.not_eq_true, risingN_iff]
          intro hall
          have h1 := hall k hlt
          omega
        simp [this]
      · go_roundw
        case rel => 
          refine ⟨k + 1, by go_num, by omega, fun j hj hl => ?_, Drawn.of w _⟩
          by_cases e : j = k
          · subst e
            omega
          · exact Hr.out j (by omega) hl
        case measure => simp [intOf]; omega
    · go_wp2
      refine hK.out _ _ ⟨?_, Drawn.of w n⟩
      have : risingN xs = true := by
        rw [risingN_iff]
        exact fun j hj => Hr.out j (by omega) hj
      simp [this]

theorem chkRing_le {xs : List Member} (h : ¬ 32 < xs.length) : chkRing xs = firstErr memErr none xs := by simp [chkRing, h]
set_option maxHeartbeats 400000 in
theorem ringCheck_w (w : World) (ok : Nat → Prop) (v : Value) (xs : List Member) (h : Kd.mem.At w ok v xs) :
    Calls Try.prog 38 #[v] w fun r w' => r = .returned (vErr (chkRing xs)) ∧ Ch [] w w' := by
  refine calls_ret (enc := vErr) fun K hK => ?_
  obtain ⟨A, c, rfl, hc, hm, h⟩ := h
  unfold maxLen at hm
  by_cases hl : 32 < xs.length
  · go_enter Try.func38, Try.ntmps38
    go_wp2
    exact hK.out _ _ (by simp [chkRing, hl]) (Ch.refl _ _)
  go_enter Try.func38, Try.ntmps38
  go_wp2
  go_loopw [10] (fun i wr => ∃ k : Nat, i = vInt k ∧ (k ≤ xs.length) ∧ Pending memErr xs k ∧ Ch [] w wr) (fun i _ => xs.length - (intOf i).toNat)
  case atStart => exact ⟨0, rfl, by omega, Pending.start, Ch.refl _ _⟩
  case round =>
    obtain ⟨k, rfl, hk, hp, hw⟩ := hrel
    by_cases hlt : k < xs.length
    · obtain ⟨b, o, rfl, _, hbb⟩ := h.addr (by omega)
      have hb : b < wr.heap.size := Nat.lt_of_lt_of_le hbb hw.size
      have hr := h.ch0 hw
      obtain ⟨T, m, c0, c1, c2, c3, ht⟩ := Kd.mem_cells hr hlt
      by_cases h0 : 0 < k
      · obtain ⟨T', m', d0, _, _, _, _⟩ := Kd.mem_cells hr (k := k - 1) (by omega)
        have hpv := prevAt_pos h0 hlt
        have i1 : (0 : Int) ≤ (k : Int) - 1 := (by omega); have i2 : (k : Int) - 1 < (xs.length : Int) := (by omega); have i3 : ((k : Int) - 1).toNat = k - 1 := (by omega); have i4 : (0 : Int) < (k : Int) := (by omega); have i5 : IntKind.i64.wrap ((k : Int) - 1) = (k : Int) - 1 := IntWalk.i64_in _ (by omega)
        go_wp2
        rotate_left 2
        go_quiet (fail)
        go_wp2_with (go_at_call 80; refine (rising_w _ ok _ _ (ht.ch0 ((Ch.refl _ _).alloc _ |>.drewN _))).mono ?_; rintro e w' ⟨rfl, hd⟩)
        all_goals first
          | (refine hK.out _ _ ((chkRing_le hl).trans (hp.stop hlt ?_ ?_)) ?_ <;> go_tidy
             · rw [hpv]; unfold memErr; (first | rw [rises_some] | rw [rises_none]); (repeat (first | rw [if_pos (by (first | assumption | (intro hh; cases hh; done) | exact t_of_not (by assumption) | exact n_of_not (by assumption) | exact z_of (by assumption) | exact nz_of (by assumption) | exact n_true (by assumption) | omega))] | rw [if_neg (by (first | assumption | (intro hh; cases hh; done) | exact t_of_not (by assumption) | exact n_of_not (by assumption) | exact z_of (by assumption) | exact nz_of (by assumption) | exact n_true (by assumption) | omega))]))
             · decide
             · (repeat (first | assumption | exact Ch.refl _ _ | refine Ch.alloc ?_ _ | refine Ch.drewN ?_ _ | refine Ch.drew ?_ | refine Ch.trans0 ?_ (Drawn.ch (by assumption) _) | refine Ch.trans0 ?_ (by assumption))))
          | (go_tidy
             go_roundw
             case rel =>
               refine ⟨k + 1, by go_num, by omega, hp.next hlt ?_, by (repeat (first | assumption | exact Ch.refl _ _ | refine Ch.alloc ?_ _ | refine Ch.drewN ?_ _ | refine Ch.drew ?_ | refine Ch.trans0 ?_ (Drawn.ch (by assumption) _) | refine Ch.trans0 ?_ (by assumption)))⟩
               rw [hpv]; unfold memErr; (first | rw [rises_some] | rw [rises_none]); (repeat (first | rw [if_pos (by (first | assumption | (intro hh; cases hh; done) | exact t_of_not (by assumption) | exact n_of_not (by assumption) | exact z_of (by assumption) | exact nz_of (by assumption) | exact n_true (by assumption) | omega))] | rw [if_neg (by (first | assumption | (intro hh; cases hh; done) | exact t_of_not (by assumption) | exact n_of_not (by assumption) | exact z_of (by assumption) | exact nz_of (by assumption) | exact n_true (by assumption) | omega))]))
             case measure => simp [intOf]; omega)
      · have hpv := prevAt_zero (xs := xs) h0
        have i0 : decide ((0 : Int) < (k : Int)) = false := decide_eq_false (by omega)
        go_wp2
        rotate_left 2
        go_quiet (fail)
        go_wp2_with (go_at_call 80; refine (rising_w _ ok _ _ (ht.ch0 ((Ch.refl _ _).alloc _ |>.drewN _))).mono ?_; rintro e w' ⟨rfl, hd⟩)
        all_goals first
          | (refine hK.out _ _ ((chkRing_le hl).trans (hp.stop hlt ?_ ?_)) ?_ <;> go_tidy
             · rw [hpv]; unfold memErr; (first | rw [rises_some] | rw [rises_none]); (repeat (first | rw [if_pos (by (first | assumption | (intro hh; cases hh; done) | exact t_of_not (by assumption) | exact n_of_not (by assumption) | exact z_of (by assumption) | exact nz_of (by assumption) | exact n_true (by assumption) | omega))] | rw [if_neg (by (first | assumption | (intro hh; cases hh; done) | exact t_of_not (by assumption) | exact n_of_not (by assumption) | exact z_of (by assumption) | exact nz_of (by assumption) | exact n_true (by assumption) | omega))]))
             · decide
             · (repeat (first | assumption | exact Ch.refl _ _ | refine Ch.alloc ?_ _ | refine Ch.drewN ?_ _ | refine Ch.drew ?_ | refine Ch.trans0 ?_ (Drawn.ch (by assumption) _) | refine Ch.trans0 ?_ (by assumption))))
          | (go_tidy
             go_roundw
             case rel =>
               refine ⟨k + 1, by go_num, by omega, hp.next hlt ?_, by (repeat (first | assumption | exact Ch.refl _ _ | refine Ch.alloc ?_ _ | refine Ch.drewN ?_ _ | refine Ch.drew ?_ | refine Ch.trans0 ?_ (Drawn.ch (by assumption) _) | refine Ch.trans0 ?_ (by assumption)))⟩
               rw [hpv]; unfold memErr; (first | rw [rises_some] | rw [rises_none]); (repeat (first | rw [if_pos (by (first | assumption | (intro hh; cases hh; done) | exact t_of_not (by assumption) | exact n_of_not (by assumption) | exact z_of (by assumption) | exact nz_of (by assumption) | exact n_true (by assumption) | omega))] | rw [if_neg (by (first | assumption | (intro hh; cases hh; done) | exact t_of_not (by assumption) | exact n_of_not (by assumption) | exact z_of (by assumption) | exact nz_of (by assumption) | exact n_true (by assumption) | omega))]))
             case measure => simp [intOf]; omega)
    · go_wp2
      exact hK.out _ _ (by simp [chkRing, hl, hp.ends (by omega)]) hw
end Go.Proofs.Ytmojbpgabpbacaa
