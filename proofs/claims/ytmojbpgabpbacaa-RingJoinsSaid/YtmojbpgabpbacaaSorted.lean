/- slices.SortStableFunc of places: what it leaves, of a row of the call's own, nil too. -/
import Derived.Test.YtmojbpgabpbacaaStable
namespace Go.Proofs.Ytmojbpgabpbacaa
open Go.RowKit

def Kd.place : Kd Place := Kd.flat 2 (fun x => [vU64 x.token, vStr x.name]) (fun _ => rfl) (fun x u hu => by
  simp only [List.mem_cons, List.not_mem_nil, or_false] at hu
  rcases hu with rfl | rfl <;> rfl)
theorem place_reps {w : World} {ok : Nat → Prop} : ∀ (t : List Place) (cs : List Value), Reps (Kd.place.K w ok) 2 t cs → cs = flat t := by
  intro t
  induction t with
  | nil => intro cs h; exact List.eq_nil_of_length_eq_zero (by simpa using h.1)
  | cons x r ih =>
    intro cs h
    have h0 := h.2 0 x rfl
    have h0 : (cs.drop (0 * 2)).take 2 = [vU64 x.token, vStr x.name] := h0
    rw [Nat.zero_mul, List.drop_zero] at h0
    have hr := ih (cs.drop 2) ⟨by rw [List.length_drop, h.1, List.length_cons]; omega, fun j p hj => by
      have := h.2 (j + 1) p (by simpa using hj)
      rw [List.drop_drop]
      rw [show 2 + j * 2 = (j + 1) * 2 by omega]
      exact this⟩
    rw [← List.take_append_drop 2 cs, h0, hr]
    rfl
/-- A row of the call's own, nil or not. -/
theorem Own.prow {w : World} {base : Nat} {ok : Nat → Prop} {v : Value} {t : List Place} (h : Kd.place.Own 87 w base ok v t) :
    (v = .slice none 0 0 ∧ t = []) ∨ ∃ g cap sp, v = .slice (some ⟨g, 0, none⟩) t.length cap ∧ base ≤ g ∧ t.length ≤ cap ∧ cap ≤ maxLen ∧ PRow w g sp t := by
  obtain ⟨inner, ⟨h1, h2⟩, h3⟩ := h
  rcases h2 with ⟨rfl, hn⟩ | ⟨g, cap, cur, rfl, hg, hh, hn, hm, hcs, htake⟩
  · exact .inl ⟨rfl, List.eq_nil_of_length_eq_zero hn⟩
  · refine .inr ⟨g, cap, cur.toList.drop (t.length * 2), rfl, hg, hn, hm, ?_⟩
    have e := place_reps _ _ h3
    have htake : cur.toList.take (t.length * 2) = inner := htake
    unfold PRow Blk
    rw [← e, ← htake, List.take_append_drop, Array.toArray_toList]
    exact hh
theorem PRow.at_ {w : World} {g cap : Nat} {sp : List Value} {t : List Place} {ok : Nat → Prop} (h : PRow w g sp t) (hn : t.length ≤ cap) (hm : cap ≤ maxLen) (hok : ok g) : Kd.place.At w ok (.slice (some ⟨g, 0, none⟩) t.length cap) t :=
  ⟨_, cap, rfl, hn, hm, fun _ => ⟨g, 0, rfl, hok, Blk.lt h, fun j x hj => ⟨[vU64 x.token, vStr x.name], rfl, fun i u hu => by
    obtain ⟨hj1, rfl⟩ := List.getElem?_eq_some_iff.1 hj
    have hf := h.facts hj1
    have e : Kd.place.sz = 2 := rfl
    rw [e, Nat.zero_add]
    match i, hu with
    | 0, hu => rw [← Option.some.inj hu]; exact hf.1
    | 1, hu => rw [← Option.some.inj hu]; exact hf.2.1
    | i + 2, hu => simp at hu⟩⟩⟩

set_option maxHeartbeats 800000 in
theorem insertion0_w (w : World) (v : Value) : Calls Try.prog 131 #[v, vInt 0, vInt 0, vCmp] w fun r w' => r = .returned vUnit ∧ w = w' := by
  refine calls_hide fun K hK => ?_
  go_enter Try.func131, Try.ntmps131
  go_wp2
  refine wp_loop_rounds 1 ?_
  rw [rounds_succ]
  go_wp2
  go_end0
  exact hK.out _ _ ⟨rfl, rfl⟩
set_option maxHeartbeats 800000 in
theorem stable0_w (w : World) (v : Value) : Calls Try.prog 81 #[v, vInt 0, vCmp] w fun r w' => r = .returned vUnit ∧ w = w' := by
  refine calls_hide fun K hK => ?_
  go_enter Try.func81, Try.ntmps81
  go_wp2
  refine wp_loop_rounds 1 ?_
  rw [rounds_succ]
  go_wp2_with (go_at_call 131; refine (insertion0_w _ _).mono ?_; rintro e w' ⟨rfl, rfl⟩)
  refine wp_loop_rounds 1 ?_
  rw [rounds_succ]
  go_wp2
  go_end0
  exact hK.out _ _ ⟨rfl, rfl⟩

theorem zipIdx_rising (t : List Place) : ∀ n, Rising (t.zipIdx n) ∧ ∀ x ∈ t.zipIdx n, n ≤ x.2 := by
  induction t with
  | nil => intro n; exact ⟨List.Pairwise.nil, by simp⟩
  | cons x r ih =>
    intro n
    have := ih (n + 1)
    rw [List.zipIdx_cons]
    refine ⟨List.pairwise_cons.2 ⟨fun y hy => by have := this.2 y hy; show n < y.2; omega, this.1⟩, fun y hy => ?_⟩
    rcases List.mem_cons.1 hy with rfl | hy
    · exact Nat.le_refl _
    · have := this.2 y hy; omega
theorem zipIdx_pl (t : List Place) : ∀ n, pl (t.zipIdx n) = t := by
  induction t with
  | nil => intro n; rfl
  | cons x r ih => intro n; rw [List.zipIdx_cons, pl_cons, ih]

/-- What a stable sort makes of t, with where each stood at first. -/
def Sorted (t : List Place) (Z : List Tg) : Prop := Z.Perm (t.zipIdx 0) ∧ Srt Z
theorem srt_eq : ∀ (Z Y : List Tg), Z.Perm Y → Srt Z → Srt Y → Z = Y := by
  intro Z
  induction Z with
  | nil => intro Y h _ _; exact (List.nil_perm.1 h).symm
  | cons z r ih =>
    intro Y h hz hy
    rcases Y with _ | ⟨y, s⟩
    · exact absurd h.length_eq (by simp)
    · have hz1 := List.pairwise_cons.1 hz
      have hy1 := List.pairwise_cons.1 hy
      have e : z = y := by
        rcases List.mem_cons.1 (h.mem_iff.1 (List.mem_cons_self (a := z) (l := r))) with h1 | h1
        · exact h1
        · rcases List.mem_cons.1 (h.mem_iff.2 (List.mem_cons_self (a := y) (l := s))) with h2 | h2
          · exact h2.symm
          · exfalso
            have a1 := hy1.1 z h1
            have a2 := hz1.1 y h2
            unfold L at a1 a2
            omega
      subst e
      rw [ih s (List.Perm.cons_inv h) hz1.2 hy1.2]
theorem Sorted.unique {t : List Place} {Z Y : List Tg} (h : Sorted t Z) (k : Sorted t Y) : Z = Y := srt_eq _ _ (h.1.trans k.1.symm) h.2 k.2

set_option maxHeartbeats 800000 in
theorem sortStable_w (w : World) (base : Nat) (ok : Nat → Prop) (v : Value) (t : List Place) (hbig : t.length ≤ 1000000) (h : Kd.place.Own 87 w base ok v t) :
    Calls Try.prog 39 #[v, vCmp] w fun r w' => r = .returned vUnit ∧ ∃ Z, Sorted t Z ∧ Kd.place.At w' (fun k => base ≤ k) v (pl Z) ∧ Ch v.ownBlock.toList w w' := by
  refine calls_hide fun K hK => ?_
  rcases Own.prow h with ⟨rfl, rfl⟩ | ⟨g, cap, sp, rfl, hg, hn, hm, hp⟩
  · go_enter Try.func39, Try.ntmps39
    go_wp2_with (go_at_call 81; refine (stable0_w _ _).mono ?_; rintro e w' ⟨rfl, rfl⟩)
    go_end0
    exact hK.out _ _ ⟨rfl, [], ⟨List.Perm.refl _, List.Pairwise.nil⟩, Kd.At.nil _ _ _, Ch.refl _ _⟩
  · have hp' : PRow w g sp (pl (t.zipIdx 0)) := by rw [zipIdx_pl]; exact hp
    go_enter Try.func39, Try.ntmps39
    go_wp2_with (go_at_call 81; refine (stable_w _ g sp cap (t.zipIdx 0) t.length (List.length_zipIdx ..) hbig (zipIdx_rising t 0).1 hp').mono ?_; rintro e w' ⟨rfl, Z, z1, z2, z3, z4⟩)
    go_end0
    have hl : (pl Z).length = t.length := by rw [pl_len, z1.length_eq, List.length_zipIdx]
    refine hK.out _ _ ⟨rfl, Z, ⟨z1, z2⟩, ?_, by simpa [Value.ownBlock] using z4⟩
    have := z3.at_ (cap := cap) (ok := fun k => base ≤ k) (by omega) hm hg
    rwa [hl] at this
end Go.Proofs.Ytmojbpgabpbacaa
