/- The stable sort: symMerge where one side is one element. -/
import Derived.Test.YtmojbpgabpbacaaMerge0
namespace Go.Proofs.Ytmojbpgabpbacaa
open Go.RowKit

def pl (g : List Tg) : List Place := g.map Prod.fst
theorem pl_append (a b : List Tg) : pl (a ++ b) = pl a ++ pl b := List.map_append
theorem pl_cons (x : Tg) (a : List Tg) : pl (x :: a) = x.1 :: pl a := rfl
theorem pl_len (a : List Tg) : (pl a).length = a.length := List.length_map _
abbrev vCmp : Value := .func (.func 40) #[] #[]
theorem cmpI_less {a b : Place} (h : a.token < b.token) : cmpI a b < 0 := by
  unfold cmpI cmpN
  rw [if_pos h]
  decide
theorem cmpI_not {a b : Place} (h : ¬ a.token < b.token) : ¬ cmpI a b < 0 := by
  unfold cmpI cmpN
  rw [if_neg h]
  split <;> decide
/-- A cell of the row, in every later world. -/
theorem PRow.later {w : World} {b : Nat} {sp : List Value} {t : List Place} {k : Nat} (h : PRow w b sp t) (hk : k < t.length) :
    ∀ p : Later w, p.world.cell? ⟨b, k * 2, none⟩ = some (vU64 t[k].token) ∧ p.world.cell? ⟨b, k * 2 + 1, none⟩ = some (vStr t[k].name) := fun p =>
  ⟨((h.ch0 p.ch).facts hk).1, ((h.ch0 p.ch).facts hk).2.1⟩
theorem mid_get? (A Y B : List Tg) (k : Nat) (hk : k < Y.length) : (pl (A ++ (Y ++ B)))[A.length + k]? = some Y[k].1 := by
  unfold pl
  rw [List.getElem?_map, get_app, if_neg (by omega), Nat.add_sub_cancel_left, get_app, if_pos hk, List.getElem?_eq_getElem hk]
  rfl
theorem mid_get (A Y B : List Tg) (k : Nat) (hk : k < Y.length) (h : A.length + k < (pl (A ++ (Y ++ B))).length) : (pl (A ++ (Y ++ B)))[A.length + k] = Y[k].1 := by
  have := mid_get? A Y B k hk
  rw [List.getElem?_eq_getElem h] at this
  exact Option.some.inj this
theorem swp_adj (P Q : List Place) (u v : Place) (t : List Place) (ht : t = P ++ (u :: v :: Q)) (i : Nat) (hi : i < t.length) (hj : i + 1 < t.length) (hP : P.length = i) : swp t i (i + 1) hi hj = P ++ (v :: u :: Q) := by
  apply List.ext_getElem?
  intro k
  rw [swp_get _ _ _ _ _ (by omega), ht]
  simp only [get_app, hP]
  have c : k < i ∨ k = i ∨ k = i + 1 ∨ ∃ n, k = i + (n + 2) := by
    by_cases h1 : k < i
    · exact .inl h1
    · by_cases h2 : k = i
      · exact .inr (.inl h2)
      · by_cases h3 : k = i + 1
        · exact .inr (.inr (.inl h3))
        · exact .inr (.inr (.inr ⟨k - i - 2, by omega⟩))
  rcases c with h1 | rfl | rfl | ⟨n, rfl⟩
  · rw [if_neg (by omega), if_neg (by omega), if_pos h1, if_pos h1]
  · rw [if_pos rfl, if_neg (by omega), if_neg (by omega), Nat.sub_self, show k + 1 - k = 1 by omega]; rfl
  · rw [if_neg (by omega), if_pos rfl, if_neg (by omega), if_neg (by omega), Nat.sub_self, show i + 1 - i = 1 by omega]; rfl
  · rw [if_neg (by omega), if_neg (by omega), if_neg (by omega), if_neg (by omega), show i + (n + 2) - i = n + 1 + 1 by omega]; rfl

set_option maxRecDepth 100000 in
set_option maxHeartbeats 6400000 in
theorem merge_left_w (w : World) (blk : Nat) (sp : List Value) (cp : Nat) (A Y B : List Tg) (x : Tg) (a m b Ln : Nat) (hA : A.length = a) (hm : a + 1 = m) (hb : m + Y.length = b) (hL : b + B.length = Ln) (hbig : Ln ≤ 1000000)
    (hS : Srt Y) (hap : ∀ y ∈ Y, x.2 < y.2) (h : PRow w blk sp (pl (A ++ (x :: (Y ++ B))))) :
    Calls Try.prog 132 #[.slice (some ⟨blk, 0, none⟩) Ln cp, vInt a, vInt m, vInt b, vCmp] w fun r w' => r = .returned vUnit ∧ ∃ Z : List Tg, Z.Perm (x :: Y) ∧ Srt Z ∧ PRow w' blk sp (pl (A ++ (Z ++ B))) ∧ Ch [blk] w w' := by
  refine calls_hide fun K hK => ?_
  have hlen : (pl (A ++ (x :: (Y ++ B)))).length = Ln := by rw [pl_len]; simp only [List.length_append, List.length_cons]; omega
  have q1 : IntKind.i64.wrap ((m : Int) - a) = 1 := by rw [IntWalk.i64_in _ (by omega)]; omega
  go_enter Try.func132, Try.ntmps132
  go_wp2
  clear q1
  go_loopw [10, 11] (fun iv jv wr => ∃ i j : Nat, iv = vInt i ∧ jv = vInt j ∧ m ≤ i ∧ i ≤ j ∧ j ≤ b ∧ Hid (Low Y x (i - m)) ∧ Hid (High Y x (j - m)) ∧ Ch [] w wr) (fun i j _ => (intOf j).toNat - (intOf i).toNat)
  case atStart => exact ⟨m, b, rfl, rfl, Nat.le_refl _, by omega, Nat.le_refl _, hide (by rw [Nat.sub_self]; exact Low.zero _ _), hide (High.all _ _ (by omega)), Ch.refl _ _⟩
  case round =>
    obtain ⟨i, j, rfl, rfl, hmi, hij, hjb, hlo, hhi, hch⟩ := hrel
    have hr := h.ch0 hch
    by_cases hlt : i < j
    · have l1 : (i : Int) < (j : Int) := by omega
      obtain ⟨c, hc⟩ : ∃ c, (i + j) / 2 = c := ⟨_, rfl⟩
      have q2 : ((i : Int) + j) / 2 = (c : Int) := by omega
      have hcY : c - m < Y.length := by omega
      have l2 : (c : Int) < (Ln : Int) := by omega
      have l3 : (a : Int) < (Ln : Int) := by omega
      have e1 : (pl (A ++ (x :: (Y ++ B))))[c]'(by omega) = Y[c - m].1 := by
        have := mid_get (A ++ [x]) Y B (c - m) hcY (by simp only [List.append_assoc, List.singleton_append]; simp only [List.length_append, List.length_singleton]; omega)
        simp only [List.append_assoc, List.singleton_append, List.length_append, List.length_singleton] at this
        rw [← this]
        congr 1
        omega
      have e2 : (pl (A ++ (x :: (Y ++ B))))[a]'(by omega) = x.1 := by
        have := mid_get A [x] (Y ++ B) 0 (by simp) (by simp only [List.singleton_append]; omega)
        simp only [List.singleton_append, Nat.add_zero, hA] at this
        exact this
      have d0 := hr.later (k := c) (by omega)
      have d1 := hr.later (k := a) (by omega)
      rw [e1] at d0
      rw [e2] at d1
      clear e1 e2
      obtain ⟨y, hy⟩ : ∃ y, Y[c - m] = y := ⟨_, rfl⟩
      rw [hy] at d0
      have d00 := fun p => (d0 p).1
      have d01 := fun p => (d0 p).2
      have d10 := fun p => (d1 p).1
      have d11 := fun p => (d1 p).2
      clear d0 d1
      by_cases hless : y.1.token < x.1.token
      · have hneg : cmpI y.1 x.1 < 0 := cmpI_less hless
        go_wp2
        (refine wp_region_later (by kernel_rfl) (by kernel_rfl) ?_; (repeat (go_big_quiet_step (first | (go_at_call 40; exact Calls.later (cmp40_w _ _ _))))); refine wpQuiet_nil ?_; intro _ hw'; obtain ⟨⟨wq, hwq⟩, hw''⟩ := hw'; subst hw''; try dsimp only)
        go_wp2
        go_roundw
        case rel => exact ⟨c + 1, j, by go_num, rfl, by omega, by omega, hjb, hide (by rw [show c + 1 - m = (c - m) + 1 by omega]; exact Low.step hcY hS (by rw [hy]; exact L.of_less hless)), hhi, hch.trans0 hwq⟩
        case measure => simp only [intOf]; omega
      · have hneg : ¬ cmpI y.1 x.1 < 0 := cmpI_not hless
        go_wp2
        (refine wp_region_later (by kernel_rfl) (by kernel_rfl) ?_; (repeat (go_big_quiet_step (first | (go_at_call 40; exact Calls.later (cmp40_w _ _ _))))); refine wpQuiet_nil ?_; intro _ hw'; obtain ⟨⟨wq, hwq⟩, hw''⟩ := hw'; subst hw''; try dsimp only)
        go_wp2
        go_roundw
        case rel => exact ⟨i, c, rfl, by go_num, by omega, by omega, by omega, hlo, hide (High.step hcY hS (by rw [hy]; exact L.of_not hless (hap _ (hy ▸ List.getElem_mem hcY)))), hch.trans0 hwq⟩
        case measure => simp only [intOf]; omega
    · have l1 : ¬ (i : Int) < (j : Int) := by omega
      obtain rfl : i = j := by omega
      obtain ⟨e, he⟩ : ∃ e, i - m = e := ⟨_, rfl⟩
      rw [he] at hlo hhi
      go_wp2
      go_loopw [13] (fun kv wq => ∃ (c : Nat), kv = vInt (a + c) ∧ c ≤ e ∧ PRow wq blk sp (pl (A ++ (Y.take c ++ (x :: (Y.drop c ++ B))))) ∧ Ch [blk] w wq) (fun k _ => i - (intOf k).toNat)
      case atStart => exact ⟨0, rfl, by omega, by simpa using hr, hch.mono (by simp)⟩
      case round =>
        obtain ⟨c, rfl, hce, hp, hch2⟩ := hrel
        by_cases hlc : c < e
        · have hcY : c < Y.length := by omega
          have g1 : ((a + c : Nat) : Int) < (i : Int) - 1 := by omega
          have g2 : IntKind.i64.wrap ((i : Int) - 1) = (i : Int) - 1 := IntWalk.i64_in _ (by omega)
          obtain ⟨d, hd⟩ : ∃ d, a + c = d := ⟨_, rfl⟩
          rw [hd] at g1
          simp only [hd]
          have hpl : (pl (A ++ (Y.take c ++ (x :: (Y.drop c ++ B))))).length = Ln := by
            rw [pl_len]; simp only [List.length_append, List.length_cons, List.length_take, List.length_drop]; omega
          obtain ⟨t, ht⟩ : ∃ t, pl (A ++ (Y.take c ++ (x :: (Y.drop c ++ B)))) = t := ⟨_, rfl⟩
          rw [ht] at hp hpl
          have HT := hide ht
          clear ht
          have i1 : d < t.length := by omega
          have j1 : d + 1 < t.length := by omega
          obtain ⟨c0, c1, f0, f1⟩ := hp.facts i1
          obtain ⟨d0, d1, k0, k1⟩ := hp.facts j1
          have hnew := hide (hp.swp i1 j1)
          have i2 : (d : Int) < (Ln : Int) := by omega
          have j2 : (d : Int) + 1 < (Ln : Int) := by omega
          have j3 : ((d : Int) + 1).toNat = d + 1 := by omega
          have j4 : (0 : Int) ≤ (d : Int) + 1 := by omega
          go_wp2
          go_region
          go_wp2
          go_roundw
          case rel =>
            refine ⟨c + 1, by rw [← Nat.add_assoc, hd]; go_num, by omega, ?_, (((((hch2.drew).setCell (by simp) _).setCell (by simp) _).setCell (by simp) _).setCell (by simp) _)⟩
            have hs := swp_adj (pl A ++ pl (Y.take c)) (pl (Y.drop (c + 1) ++ B)) x.1 Y[c].1 t (by rw [← HT.out, List.drop_eq_getElem_cons hcY]; simp only [pl_append, pl_cons, List.append_assoc, List.cons_append]) d i1 j1 (by rw [List.length_append, pl_len, pl_len, List.length_take]; omega)
            have hn := hnew.out
            rw [hs] at hn
            have e3 : pl (A ++ (Y.take (c + 1) ++ (x :: (Y.drop (c + 1) ++ B)))) = pl A ++ pl (Y.take c) ++ (Y[c].1 :: x.1 :: pl (Y.drop (c + 1) ++ B)) := by
              rw [List.take_succ_eq_append_getElem hcY]; simp only [pl_append, pl_cons, List.append_assoc, List.cons_append, List.nil_append]
            rw [e3]
            exact hn
          case measure => simp only [intOf]; omega
        · obtain rfl : c = e := by omega
          have g1 : ¬ ((a + c : Nat) : Int) < (i : Int) - 1 := by omega
          have g2 : IntKind.i64.wrap ((i : Int) - 1) = (i : Int) - 1 := IntWalk.i64_in _ (by omega)
          go_wp2
          go_end0
          refine hK.out _ _ ⟨rfl, Y.take c ++ (x :: Y.drop c), perm_insert _ _ _, hS.insert hlo.out hhi.out, ?_, hch2⟩
          simpa only [List.append_assoc, List.cons_append] using hp
end Go.Proofs.Ytmojbpgabpbacaa
