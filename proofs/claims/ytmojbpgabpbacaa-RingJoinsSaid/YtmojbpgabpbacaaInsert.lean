/- The stable sort: the insertion sort of a block. -/
import Derived.Test.YtmojbpgabpbacaaMerge4
namespace Go.Proofs.Ytmojbpgabpbacaa
open Go.RowKit

abbrev Rising (X : List Tg) : Prop := X.Pairwise fun x y => x.2 < y.2
theorem rising_at {X : List Tg} (h : Rising X) {c : Nat} (hc : c < X.length) : ∀ y ∈ X.take c, y.2 < X[c].2 := by
  rw [← List.take_append_drop c X, Rising, List.pairwise_append, List.drop_eq_getElem_cons hc] at h
  exact fun y hy => h.2.2 y hy _ List.mem_cons_self

set_option maxRecDepth 100000 in
set_option maxHeartbeats 6400000 in
theorem insertion_w (w : World) (blk : Nat) (sp : List Value) (cp : Nat) (A X B : List Tg) (a b Ln : Nat) (hA : A.length = a) (hb : a + X.length = b) (hL : b + B.length = Ln) (hbig : Ln ≤ 1000000)
    (hX : Rising X) (h : PRow w blk sp (pl (A ++ (X ++ B)))) :
    Calls Try.prog 131 #[.slice (some ⟨blk, 0, none⟩) Ln cp, vInt a, vInt b, vCmp] w fun r w' => r = .returned vUnit ∧ ∃ Z : List Tg, Z.Perm X ∧ Srt Z ∧ PRow w' blk sp (pl (A ++ (Z ++ B))) ∧ Ch [blk] w w' := by
  refine calls_hide fun K hK => ?_
  have q1 : IntKind.i64.wrap ((a : Int) + 1) = ((a + 1 : Nat) : Int) := by rw [IntWalk.i64_in _ (by omega)]; omega
  go_enter Try.func131, Try.ntmps131
  go_wp2
  clear q1
  go_loopw [8] (fun iv wr => ∃ (c : Nat) (P : List Tg), iv = vInt (a + c) ∧ 1 ≤ c ∧ Hid (P.Perm (X.take c)) ∧ Hid (Srt P) ∧ PRow wr blk sp (pl (A ++ (P ++ (X.drop c ++ B)))) ∧ Ch [blk] w wr) (fun i _ => b - (intOf i).toNat)
  case atStart =>
    refine ⟨1, X.take 1, rfl, Nat.le_refl _, hide (List.Perm.refl _), hide ?_, ?_, Ch.refl _ _⟩
    · rcases X with _ | ⟨x, r⟩
      · exact List.Pairwise.nil
      · exact List.pairwise_singleton _ _
    · rw [← List.append_assoc (X.take 1), List.take_append_drop]
      exact h
  case round =>
    obtain ⟨c, P, rfl, hc1, hpm, hsr, hp, hch⟩ := hrel
    by_cases hlt : a + c < b
    · have l1 : ((a + c : Nat) : Int) < (b : Int) := by omega
      have hcX : c < X.length := by omega
      have hPl : P.length = c := by rw [hpm.out.length_eq, List.length_take]; omega
      obtain ⟨x, hx⟩ : ∃ x, X[c] = x := ⟨_, rfl⟩
      have hdr : X.drop c = x :: X.drop (c + 1) := by rw [List.drop_eq_getElem_cons hcX, hx]
      rw [hdr] at hp
      have hlo := hide (fun y hy => hx ▸ rising_at hX hcX y (hpm.out.mem_iff.1 hy) : ∀ y ∈ P, y.2 < x.2)
      -- what the end of the inner loop leaves
      have fin : ∀ (k : Nat) (wz : World), Low P x k → High P x k → PRow wz blk sp (pl (A ++ (P.take k ++ (x :: (P.drop k ++ (X.drop (c + 1) ++ B)))))) → Ch [blk] w wz →
          ∃ (P' : List Tg), Hid (P'.Perm (X.take (c + 1))) ∧ Hid (Srt P') ∧ PRow wz blk sp (pl (A ++ (P' ++ (X.drop (c + 1) ++ B)))) ∧ Ch [blk] w wz := fun k wz h1 h2 h3 h4 => by
        refine ⟨P.take k ++ (x :: P.drop k), hide ?_, hide (hsr.out.insert h1 h2), by simpa only [List.append_assoc, List.cons_append] using h3, h4⟩
        rw [List.take_succ_eq_append_getElem hcX, hx]
        exact (perm_insert P x k).trans ((hpm.out.cons x).trans (List.perm_append_singleton x (X.take c)).symm)
      have FIN := hide fin
      clear fin hdr
      go_wp2
      go_loopw [9] (fun jv wq => ∃ k : Nat, jv = vInt (a + k) ∧ k ≤ c ∧ Hid (High P x k) ∧ PRow wq blk sp (pl (A ++ (P.take k ++ (x :: (P.drop k ++ (X.drop (c + 1) ++ B)))))) ∧ Ch [blk] w wq) (fun j _ => (intOf j).toNat)
      case atStart => exact ⟨c, rfl, Nat.le_refl _, hide (High.all _ _ (by omega)), by rw [List.take_of_length_le (by omega), List.drop_of_length_le (by omega)]; exact hp, hch⟩
      case round =>
        clear hp hch
        obtain ⟨k, rfl, hkc, hhi, hp, hch⟩ := hrel
        by_cases hk0 : 0 < k
        · obtain ⟨k, rfl⟩ : ∃ k', k = k' + 1 := ⟨k - 1, by omega⟩
          obtain ⟨d, hd⟩ : ∃ d, a + k = d := ⟨_, rfl⟩
          have hd1 : a + (k + 1) = d + 1 := by omega
          simp only [hd1]
          have hkP : k < P.length := by omega
          have g1 : (a : Int) < (d : Int) + 1 := by omega
          have g2 : IntKind.i64.wrap ((d : Int) + 1 - 1) = (d : Int) := by rw [IntWalk.i64_in _ (by omega)]; omega
          have hpl : (pl (A ++ (P.take (k + 1) ++ (x :: (P.drop (k + 1) ++ (X.drop (c + 1) ++ B)))))).length = Ln := by
            rw [pl_len]; simp only [List.length_append, List.length_cons, List.length_take, List.length_drop]; omega
          have e1 : (pl (A ++ (P.take (k + 1) ++ (x :: (P.drop (k + 1) ++ (X.drop (c + 1) ++ B))))))[d]? = some P[k].1 := by
            have := mid_get? A (P.take (k + 1)) (x :: (P.drop (k + 1) ++ (X.drop (c + 1) ++ B))) k (by rw [List.length_take]; omega)
            rw [hA, hd] at this
            rw [this, List.getElem_take]
          have e2 : (pl (A ++ (P.take (k + 1) ++ (x :: (P.drop (k + 1) ++ (X.drop (c + 1) ++ B))))))[d + 1]? = some x.1 := by
            have := mid_get? (A ++ P.take (k + 1)) [x] (P.drop (k + 1) ++ (X.drop (c + 1) ++ B)) 0 (by simp)
            simp only [List.append_assoc, List.singleton_append, Nat.add_zero, List.length_append, List.length_take, hA] at this
            rw [show d + 1 = a + min (k + 1) P.length by omega]
            exact this
          obtain ⟨t, ht⟩ : ∃ t, pl (A ++ (P.take (k + 1) ++ (x :: (P.drop (k + 1) ++ (X.drop (c + 1) ++ B))))) = t := ⟨_, rfl⟩
          rw [ht] at hp hpl e1 e2
          have HT := hide ht
          clear ht
          have i1 : d < t.length := by omega
          have j1 : d + 1 < t.length := by omega
          have l0 := hp.later i1
          have l1' := hp.later j1
          rw [List.getElem?_eq_getElem i1] at e1
          rw [List.getElem?_eq_getElem j1] at e2
          have e1 := Option.some.inj e1
          have e2 := Option.some.inj e2
          have hnew0 : ∀ wz, PRow wz blk sp t → _ := fun wz hz => PRow.swp hz j1 i1
          rw [e1] at l0
          rw [e2] at l1'
          rw [e1, e2] at hnew0
          obtain ⟨y, hy⟩ : ∃ y, P[k] = y := ⟨_, rfl⟩
          rw [hy] at l0 hnew0 e1
          have d00 := fun p => (l0 p).1
          have d01 := fun p => (l0 p).2
          have d10 := fun p => (l1' p).1
          have d11 := fun p => (l1' p).2
          clear l0 l1'
          have NEW := hide hnew0
          clear hnew0
          have i2 : (d : Int) < (Ln : Int) := by omega
          have j2 : (d : Int) + 1 < (Ln : Int) := by omega
          have j3 : ((d : Int) + 1).toNat = d + 1 := by omega
          have j4 : (0 : Int) ≤ (d : Int) + 1 := by omega
          by_cases hless : x.1.token < y.1.token
          · have hneg : cmpI x.1 y.1 < 0 := cmpI_less hless
            go_wp2
            (refine wp_region_later (by kernel_rfl) (by kernel_rfl) ?_; (repeat (go_big_quiet_step (first | (go_at_call 40; exact Calls.later (cmp40_w _ _ _))))); refine wpQuiet_nil ?_; intro _ hw'; obtain ⟨⟨wq, hwq⟩, hw''⟩ := hw'; subst hw''; try dsimp only)
            rename_i wz
            have hpz := hp.ch0 hwq
            obtain ⟨c0, c1, f0, f1⟩ := hpz.facts i1
            obtain ⟨b0, b1, k0, k1⟩ := hpz.facts j1
            rw [e1] at c0 c1
            rw [e2] at b0 b1
            have hnew := hide (NEW.out wz hpz)
            go_wp2
            go_region
            go_wp2
            go_roundw
            case rel =>
              refine ⟨k, by rw [hd], by omega, hide (High.step hkP hsr.out (by rw [hy]; exact L.of_less hless)), ?_, ((((((hch.trans0 hwq).drew).setCell (by simp) _).setCell (by simp) _).setCell (by simp) _).setCell (by simp) _)⟩
              have hs := swp_adj (pl A ++ pl (P.take k)) (pl (P.drop (k + 1) ++ (X.drop (c + 1) ++ B))) y.1 x.1 t (by rw [← HT.out, List.take_succ_eq_append_getElem hkP, hy]; simp only [pl_append, pl_cons, List.append_assoc, List.cons_append, List.nil_append]) d i1 j1 (by rw [List.length_append, pl_len, pl_len, List.length_take]; omega)
              have hn := hnew.out
              rw [swp_comm _ _ _ _ _ (by omega), hs] at hn
              have e3 : pl (A ++ (P.take k ++ (x :: (P.drop k ++ (X.drop (c + 1) ++ B))))) = pl A ++ pl (P.take k) ++ (x.1 :: y.1 :: pl (P.drop (k + 1) ++ (X.drop (c + 1) ++ B))) := by
                rw [List.drop_eq_getElem_cons hkP, hy]; simp only [pl_append, pl_cons, List.append_assoc, List.cons_append]
              rw [e3]
              exact hn
            case measure => simp only [intOf]; omega
          · have hneg : decide (cmpI x.1 y.1 < 0) = false := decide_eq_false (cmpI_not hless)
            go_wp2
            (refine wp_region_later (by kernel_rfl) (by kernel_rfl) ?_; (repeat (go_big_quiet_step (first | (go_at_call 40; exact Calls.later (cmp40_w _ _ _))))); refine wpQuiet_nil ?_; intro _ hw'; obtain ⟨⟨wq, hwq⟩, hw''⟩ := hw'; subst hw''; try dsimp only)
            go_wp2
            obtain ⟨P', r1, r2, r3, r4⟩ := FIN.out (k + 1) _ (Low.step hkP hsr.out (by rw [hy]; exact L.of_not hless (hlo.out _ (hy ▸ List.getElem_mem hkP)))) hhi.out (by rw [HT.out]; exact hp.ch0 hwq) (hch.trans0 hwq)
            go_roundw
            case rel => exact ⟨c + 1, P', by go_num, by omega, r1, r2, r3, r4⟩
            case measure => simp only [intOf]; omega
        · obtain rfl : k = 0 := by omega
          have g1 : decide ((a : Int) < ((a + 0 : Nat) : Int)) = false := decide_eq_false (by omega)
          obtain ⟨P', r1, r2, r3, r4⟩ := FIN.out 0 _ (Low.zero _ _) hhi.out hp hch
          simp only [Nat.add_zero] at g1 ⊢
          go_wp2
          go_quiet (fail)
          go_wp2
          go_roundw
          case rel => exact ⟨c + 1, P', by go_num, by omega, r1, r2, r3.ch0 ((Ch.refl _ _).drewN _), r4.drewN _⟩
          case measure => simp only [intOf]; omega
    · have l1 : ¬ ((a + c : Nat) : Int) < (b : Int) := by omega
      go_wp2
      go_end0
      have hp1 := hpm.out
      rw [List.take_of_length_le (by omega)] at hp1
      rw [List.drop_of_length_le (by omega), List.nil_append] at hp
      exact hK.out _ _ ⟨rfl, P, hp1, hsr.out, hp, hch⟩
end Go.Proofs.Ytmojbpgabpbacaa
