/- The stable sort: symMerge, whole. -/
import Derived.Test.YtmojbpgabpbacaaMerge3
namespace Go.Proofs.Ytmojbpgabpbacaa
open Go.RowKit

set_option maxRecDepth 100000 in
set_option maxHeartbeats 12800000 in
theorem symMerge_w (n : Nat) : ∀ (w : World) (blk : Nat) (sp : List Value) (cp : Nat) (A X Y B : List Tg) (a m b Ln : Nat), X.length + Y.length ≤ n → A.length = a → a + X.length = m → m + Y.length = b → b + B.length = Ln → Ln ≤ 1000000 →
    0 < X.length → 0 < Y.length → Srt X → Srt Y → Apart X Y → PRow w blk sp (pl (A ++ (X ++ (Y ++ B)))) →
    Calls Try.prog 132 #[.slice (some ⟨blk, 0, none⟩) Ln cp, vInt a, vInt m, vInt b, vCmp] w fun r w' => r = .returned vUnit ∧ ∃ Z : List Tg, Z.Perm (X ++ Y) ∧ Srt Z ∧ PRow w' blk sp (pl (A ++ (Z ++ B))) ∧ Ch [blk] w w' := by
  induction n with
  | zero => intros; omega
  | succ n ih =>
  intro w blk sp cp A X Y B a m b Ln hn hA hm hb hL hbig hX0 hY0 hX hY hap h
  by_cases hX1 : X.length = 1
  · obtain ⟨x, rfl⟩ : ∃ x, X = [x] := by
      rcases X with _ | ⟨x, _ | _⟩ <;> simp at hX1 hX0
      exact ⟨x, rfl⟩
    exact merge_left_w w blk sp cp A Y B x a m b Ln hA hm hb hL hbig hY (fun y hy => hap x (by simp) y hy) h
  by_cases hY1 : Y.length = 1
  · obtain ⟨y, rfl⟩ : ∃ y, Y = [y] := by
      rcases Y with _ | ⟨y, _ | _⟩ <;> simp at hY1 hY0
      exact ⟨y, rfl⟩
    exact merge_right_w w blk sp cp A X B y a m b Ln hA hm (by omega) hb hL hbig hX (fun x hx => hap x hx y (by simp)) h
  refine calls_hide fun K hK => ?_
  have hlen : (pl (A ++ (X ++ (Y ++ B)))).length = Ln := by rw [pl_len]; simp only [List.length_append]; omega
  obtain ⟨dx, hdx⟩ : ∃ d, X.length = d + 2 := ⟨X.length - 2, by omega⟩
  obtain ⟨dy, hdy⟩ : ∃ d, Y.length = d + 2 := ⟨Y.length - 2, by omega⟩
  obtain ⟨md, hmd⟩ : ∃ d, (a + b) / 2 = d := ⟨_, rfl⟩
  obtain ⟨nn, hnn⟩ : ∃ d, md + m = d := ⟨_, rfl⟩
  have q1 : IntKind.i64.wrap ((m : Int) - a) = (dx : Int) + 2 := by rw [IntWalk.i64_in _ (by omega)]; omega
  have q0 : ((dx : Int) + 2 == 1) = false := by simp; omega
  have q3 : IntKind.i64.wrap ((b : Int) - m) = (dy : Int) + 2 := by rw [IntWalk.i64_in _ (by omega)]; omega
  have q4 : ((dy : Int) + 2 == 1) = false := by simp; omega
  have q5 : ((a : Int) + b) / 2 = (md : Int) := by omega
  have q6 : IntKind.i64.wrap ((md : Int) + m) = (nn : Int) := by rw [IntWalk.i64_in _ (by omega)]; omega
  have IH := hide ih
  clear ih
  go_enter Try.func132, Try.ntmps132
  go_upto_if 140 with fail
  go_cut [20, 21] (fun s r wc => ∃ lo hi : Nat, s = vInt lo ∧ r = vInt hi ∧ lo ≤ hi ∧ a ≤ lo ∧ hi ≤ m ∧ nn ≤ b + lo ∧ m + hi ≤ nn ∧ (lo = a ∨ nn = b + lo) ∧ (hi = m ∨ m + hi = nn) ∧ w = wc)
  case first =>
    by_cases hg : md < m
    · have g1 : (md : Int) < m := by omega
      obtain ⟨lo, hlo⟩ : ∃ l, l + b = nn := ⟨nn - b, by omega⟩
      have q7 : IntKind.i64.wrap ((nn : Int) - b) = (lo : Int) := by rw [IntWalk.i64_in _ (by omega)]; omega
      go_wp2
      go_meet
      exact ⟨lo, md, rfl, rfl, by omega, by omega, by omega, by omega, by omega, by omega, by omega, rfl⟩
    · have g1 : ¬ (md : Int) < m := by omega
      go_wp2
      go_meet
      exact ⟨a, m, rfl, rfl, by omega, by omega, by omega, by omega, by omega, by omega, by omega, rfl⟩
  case rest =>
    obtain ⟨lo, hi, rfl, rfl, c1, c2, c3, c4, c5, c6, c7, rfl⟩ := hcut
    clear q0 q1 q3 q4 q5 q6
    obtain ⟨p, hp⟩ : ∃ p, p + 1 = nn := ⟨nn - 1, by omega⟩
    have q1 : IntKind.i64.wrap ((nn : Int) - 1) = (p : Int) := by rw [IntWalk.i64_in _ (by omega)]; omega
    go_upto_block 8 with fail
    clear q1
    go_cut [20, 21] (fun s r wc => ∃ i : Nat, s = vInt i ∧ r = vInt i ∧ lo ≤ i ∧ i ≤ hi ∧ Hid (i = lo ∨ ∃ c, i = c + 1 ∧ lo ≤ c ∧ NLess X Y (c - a) (p - c - m)) ∧ Hid (i = hi ∨ (i < hi ∧ Less X Y (i - a) (p - i - m))) ∧ Ch [] w wc)
    case rest =>
      obtain ⟨i, rfl, rfl, hli, hjh, hlo, hhi, hch⟩ := hcut
      apply_assumption
      exact symTail_w n IH w wc blk sp cp A X Y B a m b Ln md nn i lo hi p K hn hA hm hb hL hbig (by omega) (by omega) hX hY hap hmd hnn hp c2 c3 c4 c5 c6 c7 hli hjh hlo hhi (h.ch0 hch) hch (hide fun Z wz z1 z2 z3 z4 => hK.out _ _ ⟨rfl, Z, z1, z2, z3, z4⟩) _ _ _ _ _ _ _ _ _ _ _ _ _ _ _ _ _ _ _ _ _ _ _ _ _ _ _ _ _ _ _ _ _ _ _ _ _ _ _ _ _ _ _ _ _ _ _ _ _ _ _ _ _ _ _ _ _ _ _ _ _ _ _ _ _ _ _ _ _ _ _ _ _ _ _ _ _ _ _ _ _ _ _ _ _ _ _ _ _ _ _ _ _ _ _ _ _ _ _ _ _ _ _ _ _ _ _ _ _ _ _ _ _ _ _ _ _ _ _ _ _ _ _ _ _ _ _ _ _ _ _ _ _ _ _ _ _ _ _ _ _ _ _ _ _ _ _ _ _ _ _ _ _ _ _ _ _ _ _ _ _ _ _ _ _ _ _ _ _ _ _ _ _ _ _ _ _ _ _ _ _ _ _ _ _ _ _ _ _ _ _ _ _ _ _ _ _ _ _ _ _ _ _ _ _ _ _ _ _ _ _ _
    case first =>
    go_wp2
    go_loopw [20, 21] (fun iv jv wr => ∃ i j : Nat, iv = vInt i ∧ jv = vInt j ∧ lo ≤ i ∧ i ≤ j ∧ j ≤ hi ∧ Hid (i = lo ∨ ∃ c, i = c + 1 ∧ lo ≤ c ∧ NLess X Y (c - a) (p - c - m)) ∧ Hid (j = hi ∨ (j < hi ∧ Less X Y (j - a) (p - j - m))) ∧ Ch [] w wr) (fun i j _ => (intOf j).toNat - (intOf i).toNat)
    case atStart => exact ⟨lo, hi, rfl, rfl, Nat.le_refl _, c1, Nat.le_refl _, hide (.inl rfl), hide (.inl rfl), Ch.refl _ _⟩
    case round =>
      obtain ⟨i, j, rfl, rfl, hli, hij, hjh, hlo, hhi, hch⟩ := hrel
      have hr := h.ch0 hch
      by_cases hlt : i < j
      · have l1 : (i : Int) < (j : Int) := by omega
        obtain ⟨c, hc⟩ : ∃ c, (i + j) / 2 = c := ⟨_, rfl⟩
        have q2 : ((i : Int) + j) / 2 = (c : Int) := by omega
        obtain ⟨pc, hpc⟩ : ∃ d, d + c = p := ⟨p - c, by omega⟩
        have q3 : IntKind.i64.wrap ((p : Int) - c) = (pc : Int) := by rw [IntWalk.i64_in _ (by omega)]; omega
        have epc : p - c - m = pc - m := by omega
        have hcX : c - a < X.length := by omega
        have hcY : pc - m < Y.length := by omega
        have l2 : (c : Int) < (Ln : Int) := by omega
        have l3 : (pc : Int) < (Ln : Int) := by omega
        have e1 : (pl (A ++ (X ++ (Y ++ B))))[pc]'(by omega) = Y[pc - m].1 := by
          have := mid_get (A ++ X) Y B (pc - m) hcY (by simp only [List.append_assoc, List.length_append]; omega)
          simp only [List.append_assoc, List.length_append, hA, hm] at this
          rw [← this]
          congr 1
          omega
        have e2 : (pl (A ++ (X ++ (Y ++ B))))[c]'(by omega) = X[c - a].1 := by
          have := mid_get A X (Y ++ B) (c - a) hcX (by omega)
          rw [← this]
          congr 1
          omega
        have d0 := hr.later (k := pc) (by omega)
        have d1 := hr.later (k := c) (by omega)
        rw [e1] at d0
        rw [e2] at d1
        clear e1 e2
        obtain ⟨x, hx⟩ : ∃ x, X[c - a] = x := ⟨_, rfl⟩
        rw [hx] at d1
        obtain ⟨y, hy⟩ : ∃ y, Y[pc - m] = y := ⟨_, rfl⟩
        rw [hy] at d0
        have d00 := fun p => (d0 p).1
        have d01 := fun p => (d0 p).2
        have d10 := fun p => (d1 p).1
        have d11 := fun p => (d1 p).2
        clear d0 d1
        by_cases hless : y.1.token < x.1.token
        · have hneg : cmpI y.1 x.1 < 0 := cmpI_less hless
          go_wp2
          (refine wp_region_later (by kernel_rfl) (by kernel_rfl) ?_; (repeat (go_big_quiet_step (first | (go_at_call 40; exact Calls.later (cmp40_w _ _ _))))); refine wpQuiet_nil ?_; intro _ hw'; obtain ⟨⟨wq, hwq⟩, hw''⟩ := hw'; subst hw''; try dsimp only)
          go_wp2
          go_roundw
          case rel => exact ⟨i, c, rfl, by go_num, by omega, by omega, by omega, hlo, hide (.inr ⟨by omega, hcX, by rw [epc]; exact hcY, by simp only [epc, hx, hy]; exact hless⟩), hch.trans0 hwq⟩
          case measure => simp only [intOf]; omega
        · have hneg : decide (cmpI y.1 x.1 < 0) = false := decide_eq_false (cmpI_not hless)
          go_wp2
          (refine wp_region_later (by kernel_rfl) (by kernel_rfl) ?_; (repeat (go_big_quiet_step (first | (go_at_call 40; exact Calls.later (cmp40_w _ _ _))))); refine wpQuiet_nil ?_; intro _ hw'; obtain ⟨⟨wq, hwq⟩, hw''⟩ := hw'; subst hw''; try dsimp only)
          go_wp2
          go_roundw
          case rel => exact ⟨c + 1, j, by go_num, rfl, by omega, by omega, by omega, hide (.inr ⟨c, rfl, by omega, hcX, by rw [epc]; exact hcY, by simp only [epc, hx, hy]; exact hless⟩), hhi, hch.trans0 hwq⟩
          case measure => simp only [intOf]; omega
      · have l1 : ¬ (i : Int) < (j : Int) := by omega
        obtain rfl : i = j := by omega
        go_wp2
        go_meet
        exact ⟨i, rfl, rfl, hli, hjh, hlo, hhi, hch⟩
end Go.Proofs.Ytmojbpgabpbacaa
