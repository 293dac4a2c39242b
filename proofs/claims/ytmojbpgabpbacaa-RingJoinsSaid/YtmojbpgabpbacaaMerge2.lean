/- The stable sort: symMerge where the right side is one element. -/
import Derived.Test.YtmojbpgabpbacaaMerge1
namespace Go.Proofs.Ytmojbpgabpbacaa
open Go.RowKit

theorem swp_comm (t : List Place) (i j : Nat) (hi : i < t.length) (hj : j < t.length) (hne : i ≠ j) : swp t i j hi hj = swp t j i hj hi := by
  unfold Go.Proofs.Ytmojbpgabpbacaa.swp
  exact List.set_comm _ _ hne

set_option maxRecDepth 100000 in
set_option maxHeartbeats 6400000 in
theorem merge_right_w (w : World) (blk : Nat) (sp : List Value) (cp : Nat) (A X B : List Tg) (y : Tg) (a m b Ln : Nat) (hA : A.length = a) (hm : a + X.length = m) (hX1 : 1 < X.length) (hb : m + 1 = b) (hL : b + B.length = Ln) (hbig : Ln ≤ 1000000)
    (hS : Srt X) (hap : ∀ x ∈ X, x.2 < y.2) (h : PRow w blk sp (pl (A ++ (X ++ (y :: B))))) :
    Calls Try.prog 132 #[.slice (some ⟨blk, 0, none⟩) Ln cp, vInt a, vInt m, vInt b, vCmp] w fun r w' => r = .returned vUnit ∧ ∃ Z : List Tg, Z.Perm (X ++ [y]) ∧ Srt Z ∧ PRow w' blk sp (pl (A ++ (Z ++ B))) ∧ Ch [blk] w w' := by
  refine calls_hide fun K hK => ?_
  have hlen : (pl (A ++ (X ++ (y :: B)))).length = Ln := by rw [pl_len]; simp only [List.length_append, List.length_cons]; omega
  obtain ⟨dx, hdx⟩ : ∃ d, X.length = d + 2 := ⟨X.length - 2, by omega⟩
  have q1 : IntKind.i64.wrap ((m : Int) - a) = (dx : Int) + 2 := by rw [IntWalk.i64_in _ (by omega)]; omega
  have q0 : ((dx : Int) + 2 == 1) = false := by simp; omega
  have q3 : IntKind.i64.wrap ((b : Int) - m) = 1 := by rw [IntWalk.i64_in _ (by omega)]; omega
  go_enter Try.func132, Try.ntmps132
  go_wp2
  clear q1 q0 q3
  go_loopw [14, 15] (fun iv jv wr => ∃ i j : Nat, iv = vInt i ∧ jv = vInt j ∧ a ≤ i ∧ i ≤ j ∧ j ≤ m ∧ Hid (Low X y (i - a)) ∧ Hid (High X y (j - a)) ∧ Ch [] w wr) (fun i j _ => (intOf j).toNat - (intOf i).toNat)
  case atStart => exact ⟨a, m, rfl, rfl, Nat.le_refl _, by omega, Nat.le_refl _, hide (by rw [Nat.sub_self]; exact Low.zero _ _), hide (High.all _ _ (by omega)), Ch.refl _ _⟩
  case round =>
    obtain ⟨i, j, rfl, rfl, hmi, hij, hjb, hlo, hhi, hch⟩ := hrel
    have hr := h.ch0 hch
    by_cases hlt : i < j
    · have l1 : (i : Int) < (j : Int) := by omega
      obtain ⟨c, hc⟩ : ∃ c, (i + j) / 2 = c := ⟨_, rfl⟩
      have q2 : ((i : Int) + j) / 2 = (c : Int) := by omega
      have hcX : c - a < X.length := by omega
      have l2 : (c : Int) < (Ln : Int) := by omega
      have l3 : (m : Int) < (Ln : Int) := by omega
      have e1 : (pl (A ++ (X ++ (y :: B))))[c]'(by omega) = X[c - a].1 := by
        have := mid_get A X (y :: B) (c - a) hcX (by omega)
        rw [← this]
        congr 1
        omega
      have e2 : (pl (A ++ (X ++ (y :: B))))[m]'(by omega) = y.1 := by
        have := mid_get (A ++ X) [y] B 0 (by simp) (by simp only [List.append_assoc, List.singleton_append, List.length_append]; omega)
        simp only [List.append_assoc, List.singleton_append, Nat.add_zero, List.length_append, hA, hm] at this
        exact this
      have d0 := hr.later (k := c) (by omega)
      have d1 := hr.later (k := m) (by omega)
      rw [e1] at d0
      rw [e2] at d1
      clear e1 e2
      obtain ⟨x, hx⟩ : ∃ x, X[c - a] = x := ⟨_, rfl⟩
      rw [hx] at d0
      have d00 := fun p => (d0 p).1
      have d01 := fun p => (d0 p).2
      have d10 := fun p => (d1 p).1
      have d11 := fun p => (d1 p).2
      clear d0 d1
      by_cases hless : y.1.token < x.1.token
      · have hneg : cmpI y.1 x.1 < 0 := cmpI_less hless
        go_wp2
        (refine wp_region_later (by kernel_rfl) (by kernel_rfl) ?_; (repeat (go_big_quiet_step (first | (go_at_call 40; exact Calls.later (cmp40_w _ _ _))))); refine wpQuiet_nil ?_; intro _ hw'; obtain ⟨⟨wq, hwq⟩, hw''⟩ := hw'; subst hw''; try dsimp only)
        go_wp2
        go_roundw
        case rel => exact ⟨i, c, rfl, by go_num, by omega, by omega, by omega, hlo, hide (High.step hcX hS (by rw [hx]; exact L.of_less hless)), hch.trans0 hwq⟩
        case measure => simp only [intOf]; omega
      · have hneg : decide (cmpI y.1 x.1 < 0) = false := decide_eq_false (cmpI_not hless)
        go_wp2
        (refine wp_region_later (by kernel_rfl) (by kernel_rfl) ?_; (repeat (go_big_quiet_step (first | (go_at_call 40; exact Calls.later (cmp40_w _ _ _))))); refine wpQuiet_nil ?_; intro _ hw'; obtain ⟨⟨wq, hwq⟩, hw''⟩ := hw'; subst hw''; try dsimp only)
        go_wp2
        go_roundw
        case rel => exact ⟨c + 1, j, by go_num, rfl, by omega, by omega, hjb, hide (by rw [show c + 1 - a = (c - a) + 1 by omega]; exact Low.step hcX hS (by rw [hx]; exact L.of_not hless (hap _ (hx ▸ List.getElem_mem hcX)))), hhi, hch.trans0 hwq⟩
        case measure => simp only [intOf]; omega
    · have l1 : ¬ (i : Int) < (j : Int) := by omega
      obtain rfl : i = j := by omega
      obtain ⟨e, he⟩ : ∃ e, i - a = e := ⟨_, rfl⟩
      rw [he] at hlo hhi
      go_wp2
      go_loopw [17] (fun kv wq => ∃ (c : Nat), kv = vInt (a + c) ∧ e ≤ c ∧ c ≤ X.length ∧ PRow wq blk sp (pl (A ++ (X.take c ++ (y :: (X.drop c ++ B))))) ∧ Ch [blk] w wq) (fun k _ => (intOf k).toNat)
      case atStart => exact ⟨X.length, by rw [hm], by omega, Nat.le_refl _, by rw [List.take_length, List.drop_length]; exact hr, hch.mono (by simp)⟩
      case round =>
        obtain ⟨c, rfl, hce, hcl, hp, hch2⟩ := hrel
        by_cases hlc : e < c
        · obtain ⟨c, rfl⟩ : ∃ c', c = c' + 1 := ⟨c - 1, by omega⟩
          have hcX : c < X.length := by omega
          obtain ⟨d, hd⟩ : ∃ d, a + c = d := ⟨_, rfl⟩
          have hd1 : a + (c + 1) = d + 1 := by omega
          have g1 : (i : Int) < (d : Int) + 1 := by omega
          have g2 : IntKind.i64.wrap ((d : Int) + 1 - 1) = (d : Int) := by rw [IntWalk.i64_in _ (by omega)]; omega
          simp only [hd1]
          have hpl : (pl (A ++ (X.take (c + 1) ++ (y :: (X.drop (c + 1) ++ B))))).length = Ln := by
            rw [pl_len]; simp only [List.length_append, List.length_cons, List.length_take, List.length_drop]; omega
          obtain ⟨t, ht⟩ : ∃ t, pl (A ++ (X.take (c + 1) ++ (y :: (X.drop (c + 1) ++ B)))) = t := ⟨_, rfl⟩
          rw [ht] at hp hpl
          have HT := hide ht
          clear ht
          have i1 : d < t.length := by omega
          have j1 : d + 1 < t.length := by omega
          obtain ⟨c0, c1, f0, f1⟩ := hp.facts i1
          obtain ⟨d0, d1, k0, k1⟩ := hp.facts j1
          have hnew := hide (hp.swp j1 i1)
          have i2 : (d : Int) < (Ln : Int) := by omega
          have j2 : (d : Int) + 1 < (Ln : Int) := by omega
          have j3 : ((d : Int) + 1).toNat = d + 1 := by omega
          have j4 : (0 : Int) ≤ (d : Int) + 1 := by omega
          go_wp2
          go_region
          go_wp2
          go_roundw
          case rel =>
            refine ⟨c, by rw [hd], by omega, by omega, ?_, (((((hch2.drew).setCell (by simp) _).setCell (by simp) _).setCell (by simp) _).setCell (by simp) _)⟩
            have hs := swp_adj (pl A ++ pl (X.take c)) (pl (X.drop (c + 1) ++ B)) X[c].1 y.1 t (by rw [← HT.out, List.take_succ_eq_append_getElem hcX]; simp only [pl_append, pl_cons, List.append_assoc, List.cons_append, List.nil_append]) d i1 j1 (by rw [List.length_append, pl_len, pl_len, List.length_take]; omega)
            have hn := hnew.out
            rw [swp_comm _ _ _ _ _ (by omega), hs] at hn
            have e3 : pl (A ++ (X.take c ++ (y :: (X.drop c ++ B)))) = pl A ++ pl (X.take c) ++ (y.1 :: X[c].1 :: pl (X.drop (c + 1) ++ B)) := by
              rw [List.drop_eq_getElem_cons hcX]; simp only [pl_append, pl_cons, List.append_assoc, List.cons_append]
            rw [e3]
            exact hn
          case measure => simp only [intOf]; omega
        · obtain rfl : c = e := by omega
          have g1 : ¬ (i : Int) < ((a + c : Nat) : Int) := by omega
          go_wp2
          go_end0
          refine hK.out _ _ ⟨rfl, X.take c ++ (y :: X.drop c), (perm_insert _ _ _).trans (List.perm_append_singleton y X).symm, hS.insert hlo.out hhi.out, ?_, hch2⟩
          simpa only [List.append_assoc, List.cons_append] using hp
end Go.Proofs.Ytmojbpgabpbacaa
