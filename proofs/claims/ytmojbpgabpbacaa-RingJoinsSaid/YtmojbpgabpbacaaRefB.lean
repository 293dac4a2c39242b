/- spenceref22.Check. -/
import Derived.Test.YtmojbpgabpbacaaRefA
namespace Go.Proofs.Ytmojbpgabpbacaa
open Go.RowKit

theorem len_isEmpty (l : Bytes) : ((l.length : Int) == 0) = l.isEmpty := by cases l <;> simp; omega
set_option maxHeartbeats 3200000 in
theorem refCheck22_w (w : World) (ok : Nat → Prop) (v : Value) (xs : List Member) (hbig : ∀ x ∈ xs, x.name.length ≤ 140737488351232) (h : Kd.mem.At w ok v xs) :
    Calls Try.prog 9 #[v] w fun r w' => r = .returned (vErr (chkRing xs)) ∧ Ch [] w w' := by
  refine calls_ret (enc := vErr) fun K hK => ?_
  obtain ⟨A, c, rfl, hc, hm, h⟩ := h
  unfold maxLen at hm
  by_cases hl : 32 < xs.length
  · go_enter Try.func9, Try.ntmps9
    go_wp2
    exact hK.out _ _ (by simp [chkRing, hl]) (Ch.refl _ _)
  go_enter Try.func9, Try.ntmps9
  go_wp2
  go_loopw [3] (fun i wr => ∃ k : Nat, i = vInt k ∧ (k ≤ xs.length) ∧ Pending memErr xs k ∧ Ch [] w wr) (fun i _ => xs.length - (intOf i).toNat)
  case atStart => exact ⟨0, rfl, by omega, Pending.start, Ch.refl _ _⟩
  case round =>
    obtain ⟨k, rfl, hk, hp, hw⟩ := hrel
    by_cases hlt : k < xs.length
    · obtain ⟨b, o, rfl, _, hbb⟩ := h.addr (by omega)
      have hb : b < wr.heap.size := Nat.lt_of_lt_of_le hbb hw.size
      have hr := h.ch0 hw
      obtain ⟨T, m, c0, c1, c2, c3, ht⟩ := Kd.mem_cells hr hlt
      have qE := len_isEmpty xs[k].name
      have hd2 := hbig _ (List.getElem_mem hlt)
      by_cases h0 : 0 < k
      · obtain ⟨T', m', d0, _, _, _, _⟩ := Kd.mem_cells hr (k := k - 1) (by omega)
        have hpv := prevAt_pos h0 hlt
        have hd1 := hbig _ (List.getElem_mem (show k - 1 < xs.length by omega))
        have i1 : (0 : Int) ≤ (k : Int) - 1 := (by omega); have i2 : (k : Int) - 1 < (xs.length : Int) := (by omega); have i3 : ((k : Int) - 1).toNat = k - 1 := (by omega); have i4 : (0 : Int) < (k : Int) := (by omega); have i5 : IntKind.i64.wrap ((k : Int) - 1) = (k : Int) - 1 := IntWalk.i64_in _ (by omega)
        go_wp2
        all_goals try (refine hK.out _ _ ((chkRing_le hl).trans (hp.stop hlt ?_ ?_)) ?_ <;> go_tidy
                       · rw [hpv]; unfold memErr; (first | rw [rises_some] | rw [rises_none]); (repeat (first | rw [if_pos (by (first | assumption | (intro hh; cases hh; done) | exact t_of_not (by assumption) | exact n_of_not (by assumption) | exact z_of (by assumption) | exact nz_of (by assumption) | exact n_true (by assumption) | omega))] | rw [if_neg (by (first | assumption | (intro hh; cases hh; done) | exact t_of_not (by assumption) | exact n_of_not (by assumption) | exact z_of (by assumption) | exact nz_of (by assumption) | exact n_true (by assumption) | omega))]))
                       · decide
                       · (repeat (first | assumption | exact Ch.refl _ _ | refine Ch.alloc ?_ _ | refine Ch.drewN ?_ _ | refine Ch.drew ?_ | refine Ch.trans0 ?_ (Drawn.ch (by assumption) _) | refine Ch.trans0 ?_ (by assumption))))
        go_quiet ((go_at_call 37; exact Calls.quiet_of (refBelow_w _ _ _ hd1 hd2)))
        go_wp2
        all_goals try (refine hK.out _ _ ((chkRing_le hl).trans (hp.stop hlt ?_ ?_)) ?_ <;> go_tidy
                       · rw [hpv]; unfold memErr; (first | rw [rises_some] | rw [rises_none]); (repeat (first | rw [if_pos (by (first | assumption | (intro hh; cases hh; done) | exact t_of_not (by assumption) | exact n_of_not (by assumption) | exact z_of (by assumption) | exact nz_of (by assumption) | exact n_true (by assumption) | omega))] | rw [if_neg (by (first | assumption | (intro hh; cases hh; done) | exact t_of_not (by assumption) | exact n_of_not (by assumption) | exact z_of (by assumption) | exact nz_of (by assumption) | exact n_true (by assumption) | omega))]))
                       · decide
                       · (repeat (first | assumption | exact Ch.refl _ _ | refine Ch.alloc ?_ _ | refine Ch.drewN ?_ _ | refine Ch.drew ?_ | refine Ch.trans0 ?_ (Drawn.ch (by assumption) _) | refine Ch.trans0 ?_ (by assumption))))
        have hM : memErr (prevAt xs k) xs[k] = if risingN xs[k].tokens = false then 6 else 0 := by
          rw [hpv]; unfold memErr; (first | rw [rises_some] | rw [rises_none]); (repeat (first | rw [if_pos (by (first | assumption | (intro hh; cases hh; done) | exact t_of_not (by assumption) | exact n_of_not (by assumption) | exact z_of (by assumption) | exact nz_of (by assumption) | exact n_true (by assumption) | omega))] | rw [if_neg (by (first | assumption | (intro hh; cases hh; done) | exact t_of_not (by assumption) | exact n_of_not (by assumption) | exact z_of (by assumption) | exact nz_of (by assumption) | exact n_true (by assumption) | omega))]))
        have hAx := ((Ch.refl [] wr).alloc (.cells #[vStr xs[k].name, vU64 xs[k].epoch, vByte xs[k].state, .slice T xs[k].tokens.length m] 31)).drewN nq
        have hBx := (Blk.new wr 31 [vStr xs[k].name, vU64 xs[k].epoch, vByte xs[k].state, .slice T xs[k].tokens.length m]).drewN nq
        obtain ⟨tk, htk⟩ : ∃ tk, xs[k].tokens = tk := ⟨_, rfl⟩
        simp only [htk] at hM hAx hBx ht ⊢
        have HM := hide hM
        clear hM c3
        rename_i a1 a2 a3 a4 a5 a6
        clear a1 a2 a3 a4 a5 a6
        go_loopw [5] (fun i wq => ∃ j : Nat, i = .int .i64 (j + 1 : Nat) ∧ j ≤ tk.length ∧ Hid (∀ j', (hj : j' < j) → (hl : j' + 1 < tk.length) → tk[j'] < tk[j' + 1]) ∧ Blk wq wr.heap.size 31 [vStr xs[k].name, vU64 xs[k].epoch, vByte xs[k].state, .slice T tk.length m] ∧ Ch [] wr wq) (fun i _ => tk.length - (intOf i).toNat)
        case atStart => exact ⟨0, rfl, by omega, hide (fun j' hj => absurd hj (by omega)), hBx, hAx⟩
        case round =>
          clear hBx hAx
          obtain ⟨j, rfl, hj, Hr, hBx, hAx⟩ := hrel
          have x3 := hBx.cell 3
          by_cases hjl : j + 1 < tk.length
          · obtain ⟨T0, m0, hv, hle, hcm, hrow⟩ := ht.ch0 hAx
            injection hv with hA1 hl1 hc1
            subst hA1 hc1
            unfold maxLen at hcm
            obtain ⟨g, o, rfl, _, hglt⟩ := hrow.addr (by omega)
            have q0 := Kd.u64_cell hrow (k := j) (by omega)
            have q1 := Kd.u64_cell hrow hjl
            have e2 : ((j : Int) + 1).toNat = j + 1 := by omega
            have b1 : (0:Int) ≤ (j : Int) + 1 := by omega
            have b2 : (j : Int) + 1 < (tk.length : Int) := by omega
            have b3 : (j : Int) < (tk.length : Int) := by omega
            go_wp2
            go_quiet (fail)
            go_wp2
            · have hf : risingN tk = false := by
                rw [← Bool.not_eq_true, risingN_iff]
                intro hall
                have h1 := hall j hjl
                omega
              exact hK.out _ _ ((chkRing_le hl).trans (hp.stop hlt (HM.out.trans (if_pos hf)) (by decide))) (hw.trans0 (hAx.drewN _))
            · go_roundw
              case rel =>
                refine ⟨j + 1, by go_num, by omega, hide (fun j' hj' hl' => ?_), hBx.drewN _, hAx.drewN _⟩
                by_cases e : j' = j
                · subst e
                  omega
                · exact Hr.out j' (by omega) hl'
              case measure => simp [intOf]; omega
          · have b2 : ¬ (j : Int) + 1 < (tk.length : Int) := by omega
            have ht' : risingN tk = true := by
              rw [risingN_iff]
              exact fun j' hj' => Hr.out j' (by omega) hj'
            go_wp2
            go_roundw
            case rel => exact ⟨k + 1, by go_num, by omega, hp.next hlt (HM.out.trans (if_neg (by simp [ht']))), hw.trans0 hAx⟩
            case measure => simp [intOf]; omega
      · have hpv := prevAt_zero (xs := xs) h0
        have i0 : decide ((0 : Int) < (k : Int)) = false := decide_eq_false (by omega)
        go_wp2
        all_goals try (refine hK.out _ _ ((chkRing_le hl).trans (hp.stop hlt ?_ ?_)) ?_ <;> go_tidy
                       · rw [hpv]; unfold memErr; (first | rw [rises_some] | rw [rises_none]); (repeat (first | rw [if_pos (by (first | assumption | (intro hh; cases hh; done) | exact t_of_not (by assumption) | exact n_of_not (by assumption) | exact z_of (by assumption) | exact nz_of (by assumption) | exact n_true (by assumption) | omega))] | rw [if_neg (by (first | assumption | (intro hh; cases hh; done) | exact t_of_not (by assumption) | exact n_of_not (by assumption) | exact z_of (by assumption) | exact nz_of (by assumption) | exact n_true (by assumption) | omega))]))
                       · decide
                       · (repeat (first | assumption | exact Ch.refl _ _ | refine Ch.alloc ?_ _ | refine Ch.drewN ?_ _ | refine Ch.drew ?_ | refine Ch.trans0 ?_ (Drawn.ch (by assumption) _) | refine Ch.trans0 ?_ (by assumption))))
        go_quiet ((go_at_call 37; exact Calls.quiet_of (refBelow_w _ _ _ hd1 hd2)))
        go_wp2
        all_goals try (refine hK.out _ _ ((chkRing_le hl).trans (hp.stop hlt ?_ ?_)) ?_ <;> go_tidy
                       · rw [hpv]; unfold memErr; (first | rw [rises_some] | rw [rises_none]); (repeat (first | rw [if_pos (by (first | assumption | (intro hh; cases hh; done) | exact t_of_not (by assumption) | exact n_of_not (by assumption) | exact z_of (by assumption) | exact nz_of (by assumption) | exact n_true (by assumption) | omega))] | rw [if_neg (by (first | assumption | (intro hh; cases hh; done) | exact t_of_not (by assumption) | exact n_of_not (by assumption) | exact z_of (by assumption) | exact nz_of (by assumption) | exact n_true (by assumption) | omega))]))
                       · decide
                       · (repeat (first | assumption | exact Ch.refl _ _ | refine Ch.alloc ?_ _ | refine Ch.drewN ?_ _ | refine Ch.drew ?_ | refine Ch.trans0 ?_ (Drawn.ch (by assumption) _) | refine Ch.trans0 ?_ (by assumption))))
        have hM : memErr (prevAt xs k) xs[k] = if risingN xs[k].tokens = false then 6 else 0 := by
          rw [hpv]; unfold memErr; (first | rw [rises_some] | rw [rises_none]); (repeat (first | rw [if_pos (by (first | assumption | (intro hh; cases hh; done) | exact t_of_not (by assumption) | exact n_of_not (by assumption) | exact z_of (by assumption) | exact nz_of (by assumption) | exact n_true (by assumption) | omega))] | rw [if_neg (by (first | assumption | (intro hh; cases hh; done) | exact t_of_not (by assumption) | exact n_of_not (by assumption) | exact z_of (by assumption) | exact nz_of (by assumption) | exact n_true (by assumption) | omega))]))
        have hAx := ((Ch.refl [] wr).alloc (.cells #[vStr xs[k].name, vU64 xs[k].epoch, vByte xs[k].state, .slice T xs[k].tokens.length m] 31)).drewN nq
        have hBx := (Blk.new wr 31 [vStr xs[k].name, vU64 xs[k].epoch, vByte xs[k].state, .slice T xs[k].tokens.length m]).drewN nq
        obtain ⟨tk, htk⟩ : ∃ tk, xs[k].tokens = tk := ⟨_, rfl⟩
        simp only [htk] at hM hAx hBx ht ⊢
        have HM := hide hM
        clear hM c3
        rename_i a1 a2 a4 a5 a6
        clear a1 a2 a4 a5 a6
        go_loopw [5] (fun i wq => ∃ j : Nat, i = .int .i64 (j + 1 : Nat) ∧ j ≤ tk.length ∧ Hid (∀ j', (hj : j' < j) → (hl : j' + 1 < tk.length) → tk[j'] < tk[j' + 1]) ∧ Blk wq wr.heap.size 31 [vStr xs[k].name, vU64 xs[k].epoch, vByte xs[k].state, .slice T tk.length m] ∧ Ch [] wr wq) (fun i _ => tk.length - (intOf i).toNat)
        case atStart => exact ⟨0, rfl, by omega, hide (fun j' hj => absurd hj (by omega)), hBx, hAx⟩
        case round =>
          clear hBx hAx
          obtain ⟨j, rfl, hj, Hr, hBx, hAx⟩ := hrel
          have x3 := hBx.cell 3
          by_cases hjl : j + 1 < tk.length
          · obtain ⟨T0, m0, hv, hle, hcm, hrow⟩ := ht.ch0 hAx
            injection hv with hA1 hl1 hc1
            subst hA1 hc1
            unfold maxLen at hcm
            obtain ⟨g, o, rfl, _, hglt⟩ := hrow.addr (by omega)
            have q0 := Kd.u64_cell hrow (k := j) (by omega)
            have q1 := Kd.u64_cell hrow hjl
            have e2 : ((j : Int) + 1).toNat = j + 1 := by omega
            have b1 : (0:Int) ≤ (j : Int) + 1 := by omega
            have b2 : (j : Int) + 1 < (tk.length : Int) := by omega
            have b3 : (j : Int) < (tk.length : Int) := by omega
            go_wp2
            go_quiet (fail)
            go_wp2
            · have hf : risingN tk = false := by
                rw [← Bool.not_eq_true, risingN_iff]
                intro hall
                have h1 := hall j hjl
                omega
              exact hK.out _ _ ((chkRing_le hl).trans (hp.stop hlt (HM.out.trans (if_pos hf)) (by decide))) (hw.trans0 (hAx.drewN _))
            · go_roundw
              case rel =>
                refine ⟨j + 1, by go_num, by omega, hide (fun j' hj' hl' => ?_), hBx.drewN _, hAx.drewN _⟩
                by_cases e : j' = j
                · subst e
                  omega
                · exact Hr.out j' (by omega) hl'
              case measure => simp [intOf]; omega
          · have b2 : ¬ (j : Int) + 1 < (tk.length : Int) := by omega
            have ht' : risingN tk = true := by
              rw [risingN_iff]
              exact fun j' hj' => Hr.out j' (by omega) hj'
            go_wp2
            go_roundw
            case rel => exact ⟨k + 1, by go_num, by omega, hp.next hlt (HM.out.trans (if_neg (by simp [ht']))), hw.trans0 hAx⟩
            case measure => simp [intOf]; omega

    · go_wp2
      exact hK.out _ _ (by simp [chkRing, hl, hp.ends (by omega)]) hw
end Go.Proofs.Ytmojbpgabpbacaa
