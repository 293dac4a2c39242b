/- spencelaw22.RingOwners: the walk. -/
import Derived.Test.YtmojbpgabpbacaaOwnPure
import Derived.Test.YtmojbpgabpbacaaRefB
namespace Go.Proofs.Ytmojbpgabpbacaa
open Go.RowKit

theorem upN_succ (l : List Member) (k : Nat) (hk : k < l.length) : upN (l.take (k + 1)) = upN (l.take k) + (if isUp l[k] = true then 1 else 0) := by
  rw [List.take_succ_eq_append_getElem hk]
  unfold upN
  rw [List.filter_append, List.length_append]
  by_cases h : isUp l[k] = true <;> simp [h]
set_option maxRecDepth 100000 in
set_option maxHeartbeats 3200000 in
theorem ringOwners_w (w : World) (ok : Nat → Prop) (v : Value) (l : List Member) (key : Nat) (n : Int) (h : Kd.mem.At w ok v l) (hbig : ∀ x ∈ l, x.name.length ≤ 140737488351232) :
    Calls Try.prog 3 #[v, vU64 key, .int .i64 n] w fun r w' => r = .returned (.bool true) ∧ Ch [] w w' := by
  refine calls_hide fun K hK => ?_
  have hat := h.bound
  have h := h.bound
  obtain ⟨A, c, rfl, hc, hm, hrow⟩ := h
  unfold maxLen at hm
  by_cases hg : great l = true
  · go_enter Try.func3, Try.ntmps3
    go_wp2_with (first
      | (go_at_call 7; refine (awake22_w _).mono ?_; rintro e w1 ⟨rfl, hch1⟩; have h1 := hat.ch0 hch1)
      | (go_at_call 8; refine (great22_w _ _ _ _ h1).mono ?_; rintro e w2 ⟨rfl, rfl⟩; rw [hg])
      | (go_at_call 9; refine (refCheck22_w _ _ _ _ hbig h1).mono ?_; rintro e w3 ⟨rfl, hch3⟩; have h3 := h1.ch0 hch3; have hch13 := hch1.trans' hch3)
      )
    exact hK.out _ _ ⟨rfl, hch1⟩
  have hg : great l = false := by simpa using hg
  by_cases hn : 50 < n
  · go_enter Try.func3, Try.ntmps3
    go_wp2_with (first
      | (go_at_call 7; refine (awake22_w _).mono ?_; rintro e w1 ⟨rfl, hch1⟩; have h1 := hat.ch0 hch1)
      | (go_at_call 8; refine (great22_w _ _ _ _ h1).mono ?_; rintro e w2 ⟨rfl, rfl⟩; rw [hg])
      | (go_at_call 9; refine (refCheck22_w _ _ _ _ hbig h1).mono ?_; rintro e w3 ⟨rfl, hch3⟩; have h3 := h1.ch0 hch3; have hch13 := hch1.trans' hch3)
      )
    exact hK.out _ _ ⟨rfl, hch1⟩
  by_cases hck : chkRing l = 0
  · have hck' : (chkRing l != 0) = false := by simp [hck]
    have h32 := (chkRing_ok hck).1
    have Hck := hide hck
    clear hck
    go_enter Try.func3, Try.ntmps3
    go_wp2_with (first
      | (go_at_call 7; refine (awake22_w _).mono ?_; rintro e w1 ⟨rfl, hch1⟩; have h1 := hat.ch0 hch1)
      | (go_at_call 8; refine (great22_w _ _ _ _ h1).mono ?_; rintro e w2 ⟨rfl, rfl⟩; rw [hg])
      | (go_at_call 9; refine (refCheck22_w _ _ _ _ hbig h1).mono ?_; rintro e w3 ⟨rfl, hch3⟩; have h3 := h1.ch0 hch3; have hch13 := hch1.trans' hch3)
      )
    refine (owners_w _ _ _ l key n Hck.out h3).mono ?_
    rintro e w4 ⟨u1, Z, i, rfl, hZ, hi, hgot, hch4⟩
    have h4 := h3.ch0 hch4
    go_wp2_with fail
    refine (owners_w _ _ _ l key 50 Hck.out h4).mono ?_
    rintro e w5 ⟨u2, Z2, i2, rfl, hZ2, hi2, hall, hch5⟩
    obtain rfl := hZ.unique hZ2
    obtain rfl := First.unique hZ.2 hi hi2
    obtain ⟨m, hm1⟩ : ∃ m, min n.toNat (upN l) = m := ⟨_, rfl⟩
    have hmu : m ≤ upN l := by omega
    obtain ⟨hgm, hgl⟩ := own_take (i := i) n (by omega) Hck.out hZ m hm1.symm
    have hal := own_len (i := i) Hck.out hZ
    have HU := hide (fun s (hs : s ∈ picks 50 (turn (pl Z) i (pl Z).length)) => own_up Hck.out hZ hs)
    have HN := hide (picks_nodup 50 (turn (pl Z) i (pl Z).length))
    have hgot5 := hgot.ch0 hch5
    have h5 := h4.ch0 hch5
    have hup := upN_le (l := l)
    obtain ⟨all, hae⟩ : ∃ all, picks 50 (turn (pl Z) i (pl Z).length) = all := ⟨_, rfl⟩
    obtain ⟨got, hge⟩ : ∃ got, picks n (turn (pl Z) i (pl Z).length) = got := ⟨_, rfl⟩
    rw [hae] at hall hgm hal HU HN
    rw [hge] at hgm hgl hgot5
    clear hae hge hgot
    have hch15 := (hch13.trans' hch4).trans' hch5
    have Hm1 := hide hm1
    have Hgm := hide hgm
    clear hZ hZ2 hi hi2 hm1 hgm h h1 h3 h4 hch1 hch3 hch4 hch5 hch13 hat hrow
    have hat5 := h5
    obtain ⟨A5, c5, hv5, hle5, hcm5, hrow5⟩ := h5
    injection hv5 with e1 e2 e3
    subst e1 e3
    obtain ⟨A1, c1, rfl, hle1, hcm1, hrow1⟩ := hgot5
    obtain ⟨A2, c2, rfl, hle2, hcm2, hrow2⟩ := hall
    unfold maxLen at hcm1 hcm2 hcm5
    go_wp2
    go_loopw [9, 10] (fun uv iv wr => ∃ k : Nat, iv = vInt k ∧ k ≤ l.length ∧ uv = vInt (upN (l.take k)) ∧ upN (l.take k) ≤ k ∧ wr = w5) (fun _ i _ => l.length - (intOf i).toNat)
    case atStart => exact ⟨0, rfl, by omega, rfl, by simp [upN], rfl⟩
    case round =>
      obtain ⟨k, rfl, hk, rfl, hku, rfl⟩ := hrel
      by_cases hlt : k < l.length
      · obtain ⟨g, o, rfl, _, _⟩ := hrow5.addr (by omega)
        obtain ⟨T, tm, d0, d1, d2, d3, ht⟩ := Kd.mem_cells hrow5 hlt
        have hs := hide (upN_succ l k hlt)
        by_cases hst : l[k].state = 1
        · have q1 : ((l[k].state : Int) == 1) = true := by simp [hst]
          by_cases htk : 0 < l[k].tokens.length
          · have q2 : decide ((0 : Int) < (l[k].tokens.length : Int)) = true := decide_eq_true (by omega)
            have hs' := hide (show upN (l.take (k + 1)) = upN (l.take k) + 1 by rw [hs.out, if_pos (by simp [isUp, hst, htk])])
            clear hst
            go_wp2
            go_roundw
            case rel => exact ⟨k + 1, by go_num, by omega, by rw [hs'.out]; go_num, by rw [hs'.out]; omega, trivial⟩
            case measure => simp [intOf]; omega
          · have q2 : decide ((0 : Int) < (l[k].tokens.length : Int)) = false := decide_eq_false (by omega)
            have hs' := hide (show upN (l.take (k + 1)) = upN (l.take k) by rw [hs.out, if_neg (by simp [isUp, htk])]; rfl)
            clear hst
            go_wp2
            go_roundw
            case rel => exact ⟨k + 1, by go_num, by omega, by rw [hs'.out], by rw [hs'.out]; omega, trivial⟩
            case measure => simp [intOf]; omega
        · have q1 : ((l[k].state : Int) == 1) = false := by simp; omega
          have hs' := hide (show upN (l.take (k + 1)) = upN (l.take k) by rw [hs.out, if_neg (by simp [isUp, hst])]; rfl)
          go_wp2
          go_roundw
          case rel => exact ⟨k + 1, by go_num, by omega, by rw [hs'.out], by rw [hs'.out]; omega, trivial⟩
          case measure => simp [intOf]; omega
      · have htk : l.take k = l := List.take_of_length_le (by omega)
        simp only [htk] at hku ⊢
        have hcell : c2 = c2 := rfl
        clear hcell
        go_upto_region 13 with (fail)
        go_cut [11] (fun wv wc => wv = .int .i64 n ∧ wr = wc)
        case first =>
          go_wp2
          go_meet
          exact ⟨rfl, rfl⟩
        case rest =>
        obtain ⟨rfl, rfl⟩ := hcut
        apply_assumption
        go_step
        go_cut [11] (fun wv wc => wv = vInt n.toNat ∧ wr = wc)
        case first =>
          by_cases hn0 : n < 0
          · go_wp2
            go_meet
            exact ⟨congrArg (Value.int .i64) (by omega), rfl⟩
          · go_wp2
            go_meet
            exact ⟨congrArg (Value.int .i64) (by omega), rfl⟩
        case rest =>
        obtain ⟨rfl, rfl⟩ := hcut
        apply_assumption
        go_step
        go_cut [11] (fun wv wc => wv = vInt m ∧ wr = wc)
        case first =>
          by_cases hn0 : (upN l : Int) < (n.toNat : Int)
          · have e1 := hide (show upN l = m by have := Hm1.out; omega)
            go_wp2
            go_meet
            exact ⟨by rw [e1.out], rfl⟩
          · have e1 := hide (show n.toNat = m by have := Hm1.out; omega)
            go_wp2
            go_meet
            exact ⟨by rw [e1.out], rfl⟩
        case rest =>
        obtain ⟨rfl, rfl⟩ := hcut
        apply_assumption
        have hatG : Kd.str.At wr (fun k => w3.heap.size + 1 ≤ k) (.slice A1 m c1) got := ⟨A1, c1, by rw [hgl], by omega, by unfold maxLen; omega, hrow1⟩
        have hatA : Kd.str.At wr (fun k => w4.heap.size + 1 ≤ k) (.slice A2 m c2) (all.take m) := ⟨A2, c2, by rw [List.length_take]; congr 1; omega, by rw [List.length_take]; omega, by unfold maxLen; omega, hrow2.take m⟩
        have hnil : A2 = none → upN l = 0 ∧ m = 0 := fun e => by
          rcases Nat.eq_zero_or_pos (upN l) with h0 | h0
          · exact ⟨h0, by omega⟩
          · obtain ⟨b, o, e2, _⟩ := hrow2.addr (by omega)
            rw [e] at e2
            cases e2
        have Hnil := hide hnil
        clear hnil
        cases A2 with
        | none =>
          obtain ⟨h0, h1⟩ := Hnil.out rfl
          subst h1
          go_wp2_with (go_at_call 11; refine (texts_w _ _ _ _ _ _ _ hatG hatA).mono ?_; rintro e w6 ⟨rfl, nq, rfl⟩; rw [decide_eq_true Hgm.out])
          refine wp_loop_rounds 1 ?_
          rw [rounds_succ]
          go_wp2
          exact hK.out _ _ ⟨rfl, hch15.drewN nq⟩
        | some ad =>
          go_wp2_with (go_at_call 11; refine (texts_w _ _ _ _ _ _ _ hatG hatA).mono ?_; rintro e w6 ⟨rfl, nq, rfl⟩; rw [decide_eq_true Hgm.out])
          clear hatG hatA hrow1
          have hch6 : Ch [] w (wr.drewN nq) := hch15.drewN nq
          go_loopw [12] (fun iv wq => ∃ q : Nat, iv = vInt q ∧ q ≤ upN l ∧ Ch [] wr wq) (fun i _ => upN l - (intOf i).toNat)
          case atStart => exact ⟨0, rfl, by omega, (Ch.refl _ _).drewN nq⟩
          case round =>
            obtain ⟨q, rfl, hq, hcq⟩ := hrel
            by_cases hql : q < upN l
            · have hqa : q < all.length := by omega
              obtain ⟨g, o, hge, _, _⟩ := hrow2.addr (by omega)
              injection hge with hge
              subst hge
              have a1 := Kd.str_cell (hrow2.ch0 hcq) hqa
              obtain ⟨s, hs⟩ : ∃ s, all[q] = s := ⟨_, rfl⟩
              obtain ⟨y, hy1, hy2⟩ := HU.out s (hs ▸ List.getElem_mem hqa)
              have Hs := hide hs
              rw [hs] at a1
              clear hs
              go_wp2_with (go_at_call 12; refine (find22_w _ _ _ l s (hat5.ch0 hcq)).mono ?_; rintro e w7 ⟨t, x, hx, rfl, ht, hch7⟩; rw [hy1] at hx ⊢; obtain rfl : x = y := hx; simp only [Option.isSome_some]; clear hy1; obtain ⟨T, tc, rfl, _, _, _⟩ := ht)
              go_loopw [15] (fun jv ws => ∃ p : Nat, jv = vInt p ∧ p ≤ q ∧ Ch [] wr ws) (fun j _ => q - (intOf j).toNat)
              case atStart => exact ⟨0, rfl, by omega, hch7.alloc _⟩
              case round =>
                clear a1
                obtain ⟨p, rfl, hp, hcs⟩ := hrel
                by_cases hpq : p < q
                · have a1 := Kd.str_cell (hrow2.ch0 (hcq.trans0 hcs)) hqa
                  have a2 := Kd.str_cell (hrow2.ch0 (hcq.trans0 hcs)) (show p < all.length by omega)
                  rw [Hs.out] at a1
                  have b1 : (p : Int) < (upN l : Int) := by omega
                  have b2 : (q : Int) < (upN l : Int) := by omega
                  have hne : (all[p] == s) = false := by
                    rw [← Hs.out]
                    simp only [beq_eq_false_iff_ne]
                    exact List.pairwise_iff_getElem.1 HN.out p q (by omega) hqa hpq
                  go_wp2
                  go_quiet (fail)
                  go_wp2
                  go_roundw
                  case rel => exact ⟨p + 1, by go_num, by omega, hcs.drewN _⟩
                  case measure => simp [intOf]; omega
                · go_wp2
                  go_roundw
                  case rel => exact ⟨q + 1, by go_num, by omega, hcq.trans0 hcs⟩
                  case measure => simp [intOf]; omega
            · go_wp2
              exact hK.out _ _ ⟨rfl, hch15.trans' hcq⟩
  · have hck' : (chkRing l != 0) = true := by simp [hck]
    go_enter Try.func3, Try.ntmps3
    go_wp2_with (first
      | (go_at_call 7; refine (awake22_w _).mono ?_; rintro e w1 ⟨rfl, hch1⟩; have h1 := hat.ch0 hch1)
      | (go_at_call 8; refine (great22_w _ _ _ _ h1).mono ?_; rintro e w2 ⟨rfl, rfl⟩; rw [hg])
      | (go_at_call 9; refine (refCheck22_w _ _ _ _ hbig h1).mono ?_; rintro e w3 ⟨rfl, hch3⟩; have h3 := h1.ch0 hch3; have hch13 := hch1.trans' hch3)
      )
    exact hK.out _ _ ⟨rfl, hch13⟩
end Go.Proofs.Ytmojbpgabpbacaa
