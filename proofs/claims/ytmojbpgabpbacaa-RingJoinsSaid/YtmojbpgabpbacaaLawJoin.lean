/- spencelaw22.RingJoins: the walk. -/
import Derived.Test.YtmojbpgabpbacaaBump
namespace Go.Proofs.Ytmojbpgabpbacaa
open Go.RowKit

/-- The blocks that the raising may write. -/
def raised (lo hi g : Nat) : List Nat := (List.range' lo (hi - lo)).filter (fun k => decide (k ≠ g))
theorem raised_mem {lo hi g k : Nat} : k ∈ raised lo hi g ↔ lo ≤ k ∧ k < hi ∧ k ≠ g := by
  unfold raised
  rw [List.mem_filter, List.mem_range'_1]
  simp
  omega
set_option maxRecDepth 100000 in
set_option maxHeartbeats 3200000 in
theorem ringJoins_w (w : World) (ok : Nat → Prop) (va vb : Value) (a b : List Member) (key : Nat) (n : Int) (hkey : key < 18446744073709551616) (na : ∀ x ∈ a, memNums x) (nb : ∀ x ∈ b, memNums x) (la : ∀ x ∈ a, x.name.length ≤ 140737488351232) (lb : ∀ x ∈ b, x.name.length ≤ 140737488351232) (ha : Kd.mem.At w ok va a) (hb : Kd.mem.At w ok vb b) :
    Calls Try.prog 4 #[va, vb, vU64 key, .int .i64 n] w fun r w' => r = .returned (.bool true) ∧ Ch [] w w' := by
  refine calls_hide fun K hK => ?_
  have ha := ha.bound
  have hb := hb.bound
  have HNA := hide na
  have HNB := hide nb
  have HLA := hide la
  have HLB := hide lb
  clear na nb la lb
  by_cases hga : great a = true
  · go_enter Try.func4, Try.ntmps4
    go_wp2_with (first
      | (go_at_call 7; refine (awake22_w _).mono ?_; rintro e w1 ⟨rfl, hch1⟩; have h1 := ha.ch0 hch1; have h2 := hb.ch0 hch1)
      | (go_at_call 8; first
        | ((with_reducible refine (great22_w _ _ _ _ h1).mono ?_); rintro e w2 ⟨rfl, rfl⟩; rw [hga])
        | ((with_reducible refine (great22_w _ _ _ _ h2).mono ?_); rintro e w2 ⟨rfl, rfl⟩; rw [hgb])))
    exact hK.out _ _ ⟨rfl, hch1⟩
  have hga : great a = false := by simpa using hga
  by_cases hgb : great b = true
  · go_enter Try.func4, Try.ntmps4
    go_wp2_with (first
      | (go_at_call 7; refine (awake22_w _).mono ?_; rintro e w1 ⟨rfl, hch1⟩; have h1 := ha.ch0 hch1; have h2 := hb.ch0 hch1)
      | (go_at_call 8; first
        | ((with_reducible refine (great22_w _ _ _ _ h1).mono ?_); rintro e w2 ⟨rfl, rfl⟩; rw [hga])
        | ((with_reducible refine (great22_w _ _ _ _ h2).mono ?_); rintro e w2 ⟨rfl, rfl⟩; rw [hgb])))
    exact hK.out _ _ ⟨rfl, hch1⟩
  have hgb : great b = false := by simpa using hgb
  obtain ⟨⟨J, E⟩, hJE⟩ : ∃ p, joinAns a b = p := ⟨_, rfl⟩
  go_enter Try.func4, Try.ntmps4
  go_upto_block 0 with (first
  | (go_at_call 7; refine (awake22_w _).mono ?_; rintro e w1 ⟨rfl, hch1⟩; have h1 := ha.ch0 hch1; have h2 := hb.ch0 hch1)
  | (go_at_call 8; first
    | ((with_reducible refine (great22_w _ _ _ _ h1).mono ?_); rintro e w2 ⟨rfl, rfl⟩; rw [hga])
    | ((with_reducible refine (great22_w _ _ _ _ h2).mono ?_); rintro e w2 ⟨rfl, rfl⟩; rw [hgb]))
  | (go_at_call 13; (with_reducible refine (join_w _ _ _ _ a b HNA.out HNB.out h1 h2).mono ?_); rintro e w2 ⟨v2, rfl, hown2, hch2⟩; rw [hJE] at hown2 ⊢; have h12 := h1.ch0 hch2; have h22 := h2.ch0 hch2)
  | (go_at_call 14; (with_reducible refine (refJoin_w _ _ _ _ a b HNA.out HNB.out HLA.out HLB.out h12 h22).mono ?_); rintro e w3 ⟨v3, rfl, hat3, hch3⟩; rw [hJE] at hat3 ⊢; have hat2 := (Kd.memO_at hown2.at').ch0 hch3)
  | (go_at_call 15; (with_reducible refine (same22_w _ _ _ _ _ _ _ hat2 hat3).mono ?_); rintro e w4 ⟨q4, rfl, hq4, n4, rfl⟩; obtain rfl : q4 = true := hq4.2 rfl))
  have hsz2 := hch2.size
  have hsz3 := hch3.size
  have hsz1 := hch1.size
  have hch14 : Ch [] w (w3.drewN n4) := ((hch1.trans0 hch2).trans0 hch3).drewN n4
  have hat4 := hat3.ch0 ((Ch.refl [] w3).drewN n4)
  go_cut [] (fun wc => Kd.mem.At wc (fun k => ok k ∧ k < w.heap.size) va a ∧ Kd.mem.At wc (fun k => ok k ∧ k < w.heap.size) vb b ∧ (∃ ok3, Kd.mem.At wc ok3 v3 J) ∧ Ch [] w wc)
  case first =>
    rcases ownO_parts hown2 with ⟨rfl, rfl⟩ | ⟨g, cap, rfl, hgl, hgh, hcap, hcm, hparts⟩
    · go_wp2
      go_loopw [13] (fun iv wr => iv = vInt 0 ∧ w3.drewN n4 = wr) (fun _ _ => 0)
      case atStart => exact ⟨rfl, rfl⟩
      case round =>
        obtain ⟨rfl, rfl⟩ := hrel
        go_wp2
        go_meet
        exact ⟨ha.ch0 hch14, hb.ch0 hch14, ⟨_, hat4⟩, hch14⟩
    · have HP := hide hparts
      clear hparts
      unfold maxLen at hcm
      have hg1 : g ∉ raised w1.heap.size w2.heap.size g := fun h => (raised_mem.1 h).2.2 rfl
      have hch24 : Ch [] w2 (w3.drewN n4) := hch3.drewN n4
      go_wp2
      go_loopw [13] (fun iv wr => ∃ i : Nat, iv = vInt i ∧ i ≤ J.length ∧ Hid (∀ q len, Ints w2 q len → Ints wr q len) ∧ Ch (raised w1.heap.size w2.heap.size g) w2 wr ∧ Ch (raised w1.heap.size w2.heap.size g) (w3.drewN n4) wr) (fun iv _ => J.length - (intOf iv).toNat)
      case atStart => exact ⟨0, rfl, by omega, hide (fun q len h => h.ch hch24 (by simp)), hch24.mono (by simp), Ch.refl _ _⟩
      case round =>
        obtain ⟨i, rfl, hi, hints, hc2, hc4⟩ := hrel
        by_cases hil : i < J.length
        · obtain ⟨T, m, c3', hm1, hm2, hq⟩ := HP.out i J[i] (List.getElem?_eq_getElem hil)
          obtain ⟨len, hlen⟩ : ∃ len, J[i].tokens.length = len := ⟨_, rfl⟩
          rw [hlen] at c3' hm1 hq
          clear hlen
          unfold maxLen at hm2
          have c3 := hc2.cell c3' hg1
          go_wp2
          go_loopw [14] (fun kv wq => ∃ k : Nat, kv = vInt k ∧ k ≤ len ∧ Hid (∀ q len, Ints w2 q len → Ints wq q len) ∧ Ch (raised w1.heap.size w2.heap.size g) w2 wq ∧ Ch (raised w1.heap.size w2.heap.size g) (w3.drewN n4) wq) (fun kv _ => len - (intOf kv).toNat)
          case atStart => exact ⟨0, rfl, by omega, hints, hc2, hc4⟩
          case round =>
            obtain ⟨k, rfl, hk, hints2, hc22, hc42⟩ := hrel
            have c4 := hc22.cell c3' hg1
            by_cases hkl : k < len
            · obtain ⟨q, rfl, hql, hqg, hqh, hqi⟩ := hq (by omega)
              have hqi2 := hints2.out q len hqi
              obtain ⟨nn, d0⟩ := hqi2.cell hkl
              have d1 := hqi2.frozen (i := k)
              have hqm : q ∈ raised w1.heap.size w2.heap.size g := raised_mem.2 ⟨hql, hqh, hqg⟩
              go_wp2
              go_roundw
              case rel => exact ⟨k + 1, by go_num, by omega, hide (fun q' len' h => (hints2.out q' len' h).set_ _), hc22.setCell (.inl hqm) _, hc42.setCell (.inl hqm) _⟩
              case measure => simp [intOf]; omega
            · obtain rfl : k = len := by omega
              go_wp2
              go_roundw
              case rel => exact ⟨i + 1, by go_num, by omega, hints2, hc22, hc42⟩
              case measure => simp [intOf]; omega
        · obtain rfl : i = J.length := by omega
          go_wp2
          go_meet
          have hnot : ∀ k, ok k ∧ k < w.heap.size → k < (w3.drewN n4).heap.size → k ∉ raised w1.heap.size w2.heap.size g := fun k hk _ hm => by have := raised_mem.1 hm; omega
          refine ⟨(ha.ch0 hch14).ch hc4 hnot, (hb.ch0 hch14).ch hc4 hnot, ⟨_, hat4.ch hc4 ?_⟩, hch14.trans hc4 (fun t ht => .inr (by have := raised_mem.1 ht; omega))⟩
          intro k hk _ hm
          have h1 := raised_mem.1 hm
          rcases hk with h2 | h2 <;> omega
  case rest =>
    obtain ⟨hae, hbe, ⟨ok3, hme⟩, hce⟩ := hcut
    apply_assumption
    by_cases hn : 50 < n
    · go_wp2_with (first
        | (go_at_call 14; (with_reducible refine (refJoin_w _ _ _ _ a b HNA.out HNB.out HLA.out HLB.out hae hbe).mono ?_); rintro e w5 ⟨v5, rfl, hat5, hch5⟩; rw [hJE] at hat5 ⊢; have hm5 := hme.ch0 hch5; have ha5 := hae.ch0 hch5)
        | (go_at_call 15; (with_reducible refine (same22_w _ _ _ _ _ _ _ hat5 hm5).mono ?_); rintro e w6 ⟨q6, rfl, hq6, n6, rfl⟩; obtain rfl : q6 = true := hq6.2 rfl; have ha6 := ha5.ch0 ((Ch.refl [] w5).drewN n6); have hc6 := hch5.drewN n6)
        | (go_at_call 10; (with_reducible refine (ownersAll_w _ _ _ a key n ha6).mono ?_); rintro e w7 ⟨u7, Z, i7, rfl, hZ, hat7, hch7⟩; have ha7 := ha6.ch0 hch7)
        | (go_at_call 16; (with_reducible refine (refOwners_w _ _ _ a key n hkey HNA.out HLA.out Z i7 hZ ha7).mono ?_); rintro e w8 ⟨u8, rfl, hat8, hch8⟩; have hat7' := hat7.ch0 hch8)
        | (go_at_call 11; (with_reducible refine (texts_w _ _ _ _ _ _ _ hat7' hat8).mono ?_); rintro e w9 ⟨rfl, n9, rfl⟩; rw [decide_eq_true rfl]))
      exact hK.out _ _ ⟨rfl, hce.trans0 hc6⟩
    · go_wp2_with (first
        | (go_at_call 14; (with_reducible refine (refJoin_w _ _ _ _ a b HNA.out HNB.out HLA.out HLB.out hae hbe).mono ?_); rintro e w5 ⟨v5, rfl, hat5, hch5⟩; rw [hJE] at hat5 ⊢; have hm5 := hme.ch0 hch5; have ha5 := hae.ch0 hch5)
        | (go_at_call 15; (with_reducible refine (same22_w _ _ _ _ _ _ _ hat5 hm5).mono ?_); rintro e w6 ⟨q6, rfl, hq6, n6, rfl⟩; obtain rfl : q6 = true := hq6.2 rfl; have ha6 := ha5.ch0 ((Ch.refl [] w5).drewN n6); have hc6 := hch5.drewN n6)
        | (go_at_call 10; (with_reducible refine (ownersAll_w _ _ _ a key n ha6).mono ?_); rintro e w7 ⟨u7, Z, i7, rfl, hZ, hat7, hch7⟩; have ha7 := ha6.ch0 hch7)
        | (go_at_call 16; (with_reducible refine (refOwners_w _ _ _ a key n hkey HNA.out HLA.out Z i7 hZ ha7).mono ?_); rintro e w8 ⟨u8, rfl, hat8, hch8⟩; have hat7' := hat7.ch0 hch8)
        | (go_at_call 11; (with_reducible refine (texts_w _ _ _ _ _ _ _ hat7' hat8).mono ?_); rintro e w9 ⟨rfl, n9, rfl⟩; rw [decide_eq_true rfl]))
      exact hK.out _ _ ⟨rfl, ((hce.trans0 hc6).trans0 (hch7.trans0 hch8)).drewN n9⟩
end Go.Proofs.Ytmojbpgabpbacaa
