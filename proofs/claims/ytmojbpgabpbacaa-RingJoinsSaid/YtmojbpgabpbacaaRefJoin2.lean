/- spenceref22.Join. -/
import Derived.Test.YtmojbpgabpbacaaRefJoin
namespace Go.Proofs.Ytmojbpgabpbacaa
open Go.RowKit

set_option maxRecDepth 100000 in
set_option maxHeartbeats 6400000 in
theorem refJoin_w (w : World) (ok : Nat → Prop) (va vb : Value) (a b : List Member) (na : ∀ x ∈ a, memNums x) (nb : ∀ x ∈ b, memNums x) (la : ∀ x ∈ a, x.name.length ≤ 140737488351232) (lb : ∀ x ∈ b, x.name.length ≤ 140737488351232) (ha : Kd.mem.At w ok va a) (hb : Kd.mem.At w ok vb b) :
    Calls Try.prog 14 #[va, vb] w fun r w' => ∃ v, r = .returned (.tuple #[v, vErr (joinAns a b).2]) ∧ Kd.mem.At w' (fun k => (ok k ∧ k < w.heap.size) ∨ w.heap.size ≤ k) v (joinAns a b).1 ∧ Ch [] w w' := by
  refine calls_hide fun K hK => ?_
  have ha := ha.bound
  have hb := hb.bound
  have ha0 := ha
  have hb0 := hb
  by_cases hca : chkRing a = 0
  · by_cases hcb : chkRing b = 0
    · have q1 : (chkRing a != 0) = false := by simp [hca]
      have q2 : (chkRing b != 0) = false := by simp [hcb]
      obtain ⟨l1, oa⟩ := chkRing_ok hca
      obtain ⟨l2, ob⟩ := chkRing_ok hcb
      have ga : Hid (∀ x ∈ a, memIn x) := hide fun x hx => ⟨na x hx, (oa x hx).2.2.2.2⟩
      have gb : Hid (∀ x ∈ b, memIn x) := hide fun x hx => ⟨nb x hx, (ob x hx).2.2.2.2⟩
      have ra := hide (chk_rises hca)
      have rb := hide (chk_rises hcb)
      have LN : Hid (∀ x ∈ a ++ b, x.name.length ≤ 32) := hide fun x hx => by
        rcases List.mem_append.1 hx with h | h
        · exact (oa x h).1
        · exact (ob x h).1
      have JN : Hid (∀ x ∈ joinM a b, x.name.length ≤ 32) := hide fun x hx => by
        obtain ⟨k, hk, e⟩ := List.getElem_of_mem hx
        obtain ⟨h1, _⟩ := pickM_mem (joinM_at ra.out rb.out (List.getElem?_eq_some_iff.2 ⟨hk, e⟩))
        rcases h1 with h | h
        · exact (oa x h).1
        · exact (ob x h).1
      have JL := hide (joinM_len a b)
      have BN := hide (fun n (h : n ≤ (joinM a b).length) hq => best_none ra.out rb.out h hq)
      have BX := hide (fun n k y (h : n ≤ (joinM a b).length) hq hy => best_next ra.out rb.out h (k := k) (y := y) hq hy)
      have LA := hide la
      have LB := hide lb
      have HJ : Hid (joinAns a b = if 32 < (joinM a b).length then ([], 3) else (joinM a b, 0)) := hide (by unfold joinAns; rw [if_neg (by simp [hca, hcb])])
      clear oa ob na nb la lb ra rb
      obtain ⟨J, hJ⟩ : ∃ J, joinM a b = J := ⟨_, rfl⟩
      rw [hJ] at JN JL BN BX HJ
      clear hJ
      have HSA := hide (fun W (hc : Ch [] w W) => (ha0.ch0 hc).src (P := Try.prog) Try.underlying22)
      have HSB := hide (fun W (hc : Ch [] w W) => (hb0.ch0 hc).src (P := Try.prog) Try.underlying22)
      obtain ⟨A, c, rfl, hlc, hcm, hrow⟩ := ha
      obtain ⟨B, d, rfl, hld, hdm, hrowb⟩ := hb
      go_enter Try.func14, Try.ntmps14
      go_upto_region 4 with (go_at_call 9; first | ((with_reducible refine (refCheck22_w _ _ _ _ LA.out ha0).mono ?_); rintro e w1 ⟨rfl, hch1⟩; have hb1 := hb0.ch0 hch1) | ((with_reducible refine (refCheck22_w _ _ _ _ LB.out hb1).mono ?_); rintro e w2 ⟨rfl, hch2⟩; have hch12 := hch1.trans0 hch2; obtain ⟨newsA, srcA, repA⟩ := HSA.out _ (hch12.alloc (.cells #[] 31)); have RA := hide repA; clear repA))
      go_cut [7] (fun v wc => ∃ A4 c4, v = .slice A4 (a ++ b).length c4 ∧ Kd.mem.At wc (fun k => k < wc.heap.size) v (a ++ b) ∧ Ch [] w wc)
      case first =>
        have hs2 := hch12.size
        go_wp2_with (first
        | (at_builtin; refine Kd.wpList_append_src Kd.mem (base := w.heap.size) (ok := fun k => ok k ∧ k < w.heap.size) rfl (.tmp 22) (.tmp 23) 22 22 31 _ 56 rfl Try.underlying22 Try.infoMem rfl (by decide) (by decide) (v := .slice (some ⟨w2.heap.size, 0, none⟩) 0 0) (xs := []) (ps := a) (news := newsA) rfl rfl srcA (RA.out.imp fun _ _ hp => Kd.mem.mono (fun k hk => ⟨hk, fun e => by have := hk.2; simp [Value.ownBlock] at e; omega⟩) hp) (Kd.Own.empty Kd.mem 31 w2 hs2 _) (by simp; omega) (by simp; omega) ?_; intro v3 w3 hown3 hch3 hat3; obtain ⟨A3, c3, rfl⟩ := hown3.form; have hch03 : Ch [] w w3 := (hch12.alloc _).trans hch3 (fun t ht => .inr (by simp [Value.ownBlock] at ht; omega)); obtain ⟨newsB, srcB, repB⟩ := HSB.out w3 hch03; have RB := hide repB; clear repB)
        | (at_builtin; refine Kd.wpList_append_src Kd.mem (base := w.heap.size) (ok := fun k => ok k ∧ k < w.heap.size) rfl (.tmp 24) (.tmp 25) 22 22 31 _ 56 rfl Try.underlying22 Try.infoMem rfl (by decide) (by decide) (v := .slice A3 a.length c3) (xs := a) (ps := b) (news := newsB) rfl rfl srcB (RB.out.imp fun _ _ hp => Kd.mem.mono (fun k hk => ⟨hk, fun e => by have := hk.2; have := (hown3.block k e.symm).1; omega⟩) hp) hown3 hch03.size (by omega) ?_; intro v4 w4 hown4 hch4 hat4; have hat := (hown4.mono (ok' := fun k => k < w4.heap.size) (fun k hk => by have := hk.2; have := hch03.size; have := hch4.size; omega)).at_ (fun k hk => (hown4.block k hk).2); obtain ⟨A4, c4, rfl⟩ := hown4.form))
        go_meet
        rw [List.length_append] at hat
        exact ⟨A4, c4, by rw [List.length_append], hat, hch03.trans hch4 (fun t ht => .inr (hown3.block t (by simpa using ht)).1)⟩
      case rest =>
        obtain ⟨A4, c4, rfl, hL, hcc⟩ := hcut
        apply_assumption
        have hsz := hcc.size
        exact refJoinLoop_w w wc (fun k => ok k ∧ k < w.heap.size) a b (a ++ b) J A B A4 c d c4 _ BN BX (by simp; omega) (by have := JL.out; omega) LN JN ga gb (ha0.ch0 hcc) (hb0.ch0 hcc) hL (fun k hk => by have := hk.2; omega) hcc
          (hide fun wz h32 hz => by
            have q : joinAns a b = ([], 3) := by rw [HJ.out, if_pos h32]
            rw [q] at hK
            exact hK.out _ _ ⟨_, rfl, Kd.At.nil _ _ _, hz⟩)
          (hide fun v wz h32 hown hz => by
            have q : joinAns a b = (J, 0) := by rw [HJ.out, if_neg h32]
            rw [q] at hK
            exact hK.out _ _ ⟨_, rfl, (hown.mono (ok' := fun k => (ok k ∧ k < w.heap.size) ∨ w.heap.size ≤ k) (fun k hk => .inl hk)).at_ (fun k hk => .inr (by have := (hown.block k hk).1; omega)), hz⟩)
          _ _ _ _ _ _ _ _ _ _ _ _ _ _ _ _ _ _ _ _ _ _ _ _ _ _ _ _ _ _ _ _ _ _ _ _ _ _ _ _ _ _ _ _ _ _ _ _ _ _ _ _ _ _ _ _ _ _ _ _ _ _ _ _ _ _ _ _ _ _ _ _ _ _ _ _ _ _ _ _ _ _ _ _ _ _ _ _ _ _ _ _ _ _ _ _ _ _ _ _ _ _ _ _ _ _ _ _ _ _ _ _ _ _ _ _ _ _ _
    · have q1 : (chkRing a != 0) = false := by simp [hca]
      have q2 : (chkRing b != 0) = true := by simp [hcb]
      have LA := hide la
      have LB := hide lb
      have HC := hide hcb
      clear la lb na nb hcb hca
      obtain ⟨A, c, rfl, hlc, hcm, hrow⟩ := ha
      obtain ⟨B, d, rfl, hld, hdm, hrowb⟩ := hb
      go_enter Try.func14, Try.ntmps14
      go_wp2_with (go_at_call 9; first | ((with_reducible refine (refCheck22_w _ _ _ _ LA.out ha0).mono ?_); rintro e w1 ⟨rfl, hch1⟩; have hb1 := hb0.ch0 hch1) | ((with_reducible refine (refCheck22_w _ _ _ _ LB.out hb1).mono ?_); rintro e w2 ⟨rfl, hch2⟩; have hch12 := hch1.trans0 hch2))
      have q : joinAns a b = ([], 1) := by unfold joinAns; rw [if_pos (.inr HC.out)]
      rw [q] at hK
      exact hK.out _ _ ⟨_, rfl, Kd.At.nil _ _ _, hch12⟩
  · have q1 : (chkRing a != 0) = true := by simp [hca]
    have LA := hide la
    have HC := hide hca
    clear la lb na nb hca
    obtain ⟨A, c, rfl, hlc, hcm, hrow⟩ := ha
    obtain ⟨B, d, rfl, hld, hdm, hrowb⟩ := hb
    go_enter Try.func14, Try.ntmps14
    go_wp2_with (go_at_call 9; ((with_reducible refine (refCheck22_w _ _ _ _ LA.out ha0).mono ?_); rintro e w1 ⟨rfl, hch1⟩; have hb1 := hb0.ch0 hch1))
    have q : joinAns a b = ([], 1) := by unfold joinAns; rw [if_pos (.inl HC.out)]
    rw [q] at hK
    exact hK.out _ _ ⟨_, rfl, Kd.At.nil _ _ _, hch1⟩
end Go.Proofs.Ytmojbpgabpbacaa
