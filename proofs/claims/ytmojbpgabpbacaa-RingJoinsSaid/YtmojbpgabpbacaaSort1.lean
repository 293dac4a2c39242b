/- The stable sort: rotation. -/
import Derived.Test.YtmojbpgabpbacaaSort0
namespace Go.Proofs.Ytmojbpgabpbacaa
open Go.RowKit

set_option maxHeartbeats 3200000 in
theorem rotate_w (w : World) (blk : Nat) (sp : List Value) (cp : Nat) (fv : Value) (A X Y B t : List Place) (a m b L : Nat) (hL : t.length = L) (htt : t = A ++ (X ++ (Y ++ B))) (hA : A.length = a) (hX : a + X.length = m) (hY : m + Y.length = b) (hX0 : 0 < X.length) (hY0 : 0 < Y.length) (hbig : L ≤ 1000000) (h : PRow w blk sp t) :
    Calls Try.prog 168 #[.slice (some ⟨blk, 0, none⟩) L cp, vInt a, vInt m, vInt b, fv] w fun r w' => r = .returned vUnit ∧ PRow w' blk sp (A ++ (Y ++ (X ++ B))) ∧ Ch [blk] w w' := by
  refine calls_hide fun K hK => ?_
  have hlen : A.length + X.length + Y.length + B.length = L := by rw [← hL, htt]; simp only [List.length_append]; omega
  have q1 : IntKind.i64.wrap ((m : Int) - a) = (X.length : Int) := by rw [IntWalk.i64_in _ (by omega)]; omega
  have q2 : IntKind.i64.wrap ((b : Int) - m) = (Y.length : Int) := by rw [IntWalk.i64_in _ (by omega)]; omega
  rw [htt] at h
  have HT := hide htt
  clear htt
  go_enter Try.func168, Try.ntmps168
  go_wp2
  clear q1 q2
  go_loopw [10, 11] (fun i j wr => ∃ (A1 P Q B1 : List Place) (p q : Nat), i = vInt p ∧ j = vInt q ∧ P.length = p ∧ Q.length = q ∧ 0 < p ∧ 0 < q ∧ A1.length + p = m ∧ A1.length + p + q + B1.length = L ∧ Hid (A1 ++ (Q ++ (P ++ B1)) = A ++ (Y ++ (X ++ B))) ∧ PRow wr blk sp (A1 ++ (P ++ (Q ++ B1))) ∧ Ch [blk] w wr) (fun i j _ => (intOf i).toNat + (intOf j).toNat)
  case atStart => exact ⟨A, X, Y, B, _, _, rfl, rfl, rfl, rfl, hX0, hY0, by omega, by omega, hide rfl, h, Ch.refl _ _⟩
  case round =>
    obtain ⟨A1, P, Q, B1, p, q, rfl, rfl, hP, hQ, hp0, hq0, hm1, hl1, hx, hp, hch⟩ := hrel
    have hlt : (A1 ++ (P ++ (Q ++ B1))).length = L := by simp only [List.length_append]; omega
    have r1 : IntKind.i64.wrap ((m : Int) - p) = (A1.length : Int) := by rw [IntWalk.i64_in _ (by omega)]; omega
    by_cases he : p = q
    · subst he
      have e0 : ((p : Int) != p) = false := by simp
      go_wp2_with (go_at_call 181; refine (swapRange_w _ blk sp cp fv A1 P [] Q B1 _ A1.length m p L hlt rfl rfl hP (by simpa using hm1) hQ hbig hp).mono ?_; rintro e w' ⟨rfl, hp2, hch2⟩)
      go_end0
      exact hK.out _ _ ⟨rfl, hx.out ▸ hp2, hch.trans' hch2⟩
    · have e0 : ((p : Int) != q) = true := by simp; omega
      by_cases hg : q < p
      · have g1 : (q : Int) < p := by omega
        obtain ⟨P1, P2, rfl, h1⟩ : ∃ P1 P2, P = P1 ++ P2 ∧ P1.length = q := ⟨P.take q, P.drop q, (List.take_append_drop q P).symm, by rw [List.length_take]; omega⟩
        rw [List.length_append] at hP
        have s1 : IntKind.i64.wrap ((p : Int) - q) = (P2.length : Int) := by rw [IntWalk.i64_in _ (by omega)]; omega
        rw [List.append_assoc] at hp hlt
        go_wp2_with (go_at_call 181; refine (swapRange_w _ blk sp cp fv A1 P1 P2 Q B1 _ A1.length m q L hlt rfl rfl h1 (by omega) hQ hbig hp).mono ?_; rintro e w' ⟨rfl, hp2, hch2⟩)
        go_roundw
        case rel => exact ⟨A1 ++ Q, P2, P1, B1, _, _, rfl, rfl, rfl, h1, by omega, hq0, by rw [List.length_append]; omega, by rw [List.length_append]; omega, hide (by rw [← hx.out]; simp only [List.append_assoc]), by simpa only [List.append_assoc] using hp2, hch.trans' hch2⟩
        case measure => simp only [intOf]; omega
      · have g1 : ¬ (q : Int) < p := by omega
        obtain ⟨Q1, Q2, rfl, h1⟩ : ∃ Q1 Q2, Q = Q1 ++ Q2 ∧ Q2.length = p := ⟨Q.take (q - p), Q.drop (q - p), (List.take_append_drop _ Q).symm, by rw [List.length_drop]; omega⟩
        rw [List.length_append] at hQ
        obtain ⟨d, hd⟩ : ∃ d, m + q - p = d := ⟨_, rfl⟩
        have s0 : IntKind.i64.wrap ((m : Int) + q) = (m : Int) + q := IntWalk.i64_in _ (by omega)
        have s1 : IntKind.i64.wrap ((m : Int) + q - p) = (d : Int) := by rw [IntWalk.i64_in _ (by omega)]; omega
        have s2 : IntKind.i64.wrap ((q : Int) - p) = (Q1.length : Int) := by rw [IntWalk.i64_in _ (by omega)]; omega
        rw [List.append_assoc] at hp hlt
        go_wp2_with (go_at_call 181; refine (swapRange_w _ blk sp cp fv A1 P Q1 Q2 B1 _ A1.length d p L hlt rfl rfl hP (by omega) h1 hbig hp).mono ?_; rintro e w' ⟨rfl, hp2, hch2⟩)
        go_roundw
        case rel => exact ⟨A1, Q2, Q1, P ++ B1, _, _, rfl, rfl, h1, rfl, by omega, by omega, by omega, by rw [List.length_append]; omega, hide (by rw [← hx.out]; simp only [List.append_assoc]), hp2, hch.trans' hch2⟩
        case measure => simp only [intOf]; omega
end Go.Proofs.Ytmojbpgabpbacaa
