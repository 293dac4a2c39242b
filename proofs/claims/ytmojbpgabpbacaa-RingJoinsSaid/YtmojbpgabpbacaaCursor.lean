/- Package cursor: its block in memory, and what its methods do. -/
import Derived.Test.YtmojbpgabpbacaaProg
import Derived.Test.YtmojbpgabpbacaaKinds
import Derived.Test.YtmojbpgabpbacaaPars
namespace Go.Proofs.Ytmojbpgabpbacaa
open Go.RowKit

/-- A cursor at place i of the text s, with the error e. -/
def Cur (w : World) (b : Nat) (s : Bytes) (i : Nat) (e : Int) : Prop := Blk w b 177 [vStr s, vInt i, vErr e] ∧ i ≤ s.length ∧ s.length ≤ 140737488351232
section
variable {w w' : World} {b i : Nat} {s : Bytes} {e : Int}
theorem Cur.lt (h : Cur w b s i e) : b < w.heap.size := h.1.lt
theorem Cur.ch {S : List Nat} (h : Cur w b s i e) (hc : Ch S w w') (hS : b ∉ S) : Cur w' b s i e := ⟨h.1.ch hc hS, h.2⟩
theorem Cur.ch0 (h : Cur w b s i e) (hc : Ch [] w w') : Cur w' b s i e := h.ch hc (by simp)
theorem Cur.setCell (h : Cur w b s i e) {p : Addr} (hp : b ≠ p.block) (u : Value) : Cur (w.setCell p u) b s i e := ⟨h.1.far hp u, h.2⟩
theorem Cur.drewN (h : Cur w b s i e) (n : Nat) : Cur (w.drewN n) b s i e := h
theorem Cur.facts (h : Cur w b s i e) : w.cell? ⟨b, 0, none⟩ = some (vStr s) ∧ w.cell? ⟨b, 1, none⟩ = some (vInt i) ∧ w.cell? ⟨b, 2, none⟩ = some (vErr e) ∧ w.frozen? ⟨b, 1, none⟩ = false ∧ w.frozen? ⟨b, 2, none⟩ = false ∧ (i : Int) ≤ (s.length : Int) ∧ (s.length : Int) ≤ 140737488351232 :=
  ⟨h.1.cell 0, h.1.cell 1, h.1.cell 2, h.1.frozen 1, h.1.frozen 2, by have := h.2.1; omega, by have := h.2.2; omega⟩
end
abbrev vPtr (b : Nat) : Value := .pointer (some ⟨b, 0, none⟩)
abbrev vUnit : Value := .tuple #[]

set_option maxHeartbeats 400000 in
theorem curNew_w (w : World) (s : Bytes) (hs : s.length ≤ 140737488351232) :
    Calls Try.prog 64 #[vStr s] w fun r w' => ∃ b, r = .returned (vPtr b) ∧ w.heap.size ≤ b ∧ Cur w' b s 0 0 ∧ Ch [] w w' := by
  refine calls_hide fun K hK => ?_
  go_enter Try.func64, Try.ntmps64
  go_wp2
  exact hK.out _ _ ⟨w.heap.size, rfl, Nat.le_refl _, ⟨Blk.new w _ [vStr s, vInt 0, vErr 0], Nat.zero_le _, hs⟩, (Ch.refl _ _).alloc _⟩

set_option maxHeartbeats 400000 in
theorem curErr_w (w : World) (b : Nat) (s : Bytes) (i : Nat) (e : Int) (h : Cur w b s i e) :
    Calls Try.prog 115 #[vPtr b] w fun r w' => r = .returned (vErr e) ∧ w = w' := by
  refine calls_hide fun K hK => ?_
  obtain ⟨c0, c1, c2, f1, f2, l1, l2⟩ := h.facts
  go_enter Try.func115, Try.ntmps115
  go_wp2
  exact hK.out _ _ ⟨rfl, rfl⟩

set_option maxHeartbeats 400000 in
theorem curLeft_w (w : World) (b : Nat) (s : Bytes) (i : Nat) (e : Int) (h : Cur w b s i e) :
    Calls Try.prog 117 #[vPtr b] w fun r w' => r = .returned (.int .i64 ((s.length : Int) - i)) ∧ Drawn w w' := by
  refine calls_hide fun K hK => ?_
  obtain ⟨c0, c1, c2, f1, f2, l1, l2⟩ := h.facts
  have q : IntKind.i64.wrap ((s.length : Int) - i) = (s.length : Int) - i := IntWalk.i64_in _ (by omega)
  go_enter Try.func117, Try.ntmps117
  go_wp2
  go_quiet (fail)
  go_wp2
  exact hK.out _ _ ⟨rfl, Drawn.of _ _⟩

set_option maxHeartbeats 400000 in
theorem curFail_w (w : World) (b : Nat) (s : Bytes) (i : Nat) (e x : Int) (h : Cur w b s i e) :
    Calls Try.prog 113 #[vPtr b, .int .i64 x] w fun r w' => r = .returned vUnit ∧ ∃ e', Cur w' b s i e' ∧ Fails e x e' ∧ Ch [b] w w' := by
  refine calls_hide fun K hK => ?_
  obtain ⟨c0, c1, c2, f1, f2, l1, l2⟩ := h.facts
  by_cases he : e = 0
  · subst he
    go_enter Try.func113, Try.ntmps113
    go_wp2
    go_end0
    exact hK.out _ _ ⟨rfl, x, ⟨h.1.set_ 2 _, h.2⟩, by simp [Fails], (Ch.refl _ _).setCell (by simp) _⟩
  · have hb : (e == 0) = false := by simp [he]
    go_enter Try.func113, Try.ntmps113
    go_wp2
    go_end0
    exact hK.out _ _ ⟨rfl, e, h, by simp [Fails, he], Ch.refl _ _⟩

/-- What a reader's call on a cursor leaves: the cursor at a place further on, and the reader's answer. -/
def Read {α : Type} (w w' : World) (b : Nat) (s : Bytes) (i : Nat) (e : Int) (p : Pr α) (x : α) : Prop :=
  ∃ i' e', Cur w' b s i' e' ∧ Ch [b] w w' ∧ i ≤ i' ∧ Out p (s.drop i) e x (s.drop i') e'

set_option maxHeartbeats 400000 in
theorem curBytes_w (w : World) (b : Nat) (s : Bytes) (i : Nat) (e n : Int) (hn : 0 ≤ n) (h : Cur w b s i e) :
    Calls Try.prog 148 #[vPtr b, .int .i64 n] w fun r w' => ∃ x, r = .returned (vStr x) ∧ Read w w' b s i e (pBytes n.toNat) x := by
  refine calls_hide fun K hK => ?_
  obtain ⟨c0, c1, c2, f1, f2, l1, l2⟩ := h.facts
  by_cases he : e = 0
  · subst he
    by_cases hl : (s.length : Int) - i < n
    · go_enter Try.func148, Try.ntmps148
      go_wp2_with (first
        | (go_at_call 115; refine (curErr_w _ _ _ _ _ h).mono ?_; rintro e w' ⟨rfl, rfl⟩)
        | (go_at_call 117; refine (curLeft_w _ _ _ _ _ h).mono ?_; rintro e w' ⟨rfl, n, rfl⟩))
      refine (curFail_w _ _ _ _ _ _ (h.drewN n)).mono ?_
      rintro e w' ⟨rfl, e2, hc, hf, hch⟩
      obtain rfl : e2 = 2 := hf
      go_wp2
      refine hK.out _ _ ⟨[], rfl, i, 2, hc, (Drawn.ch (Drawn.of w n) [b]).trans' hch, Nat.le_refl _, Out.of_err rfl ?_ (by decide)⟩
      simp [pBytes]; omega
    · obtain ⟨m, rfl⟩ := Int.eq_ofNat_of_zero_le hn
      have q : IntKind.i64.wrap ((i : Int) + (m : Int)) = ((i + m : Nat) : Int) := IntWalk.i64_in _ (by omega)
      go_enter Try.func148, Try.ntmps148
      go_wp2_with (first
        | (go_at_call 115; refine (curErr_w _ _ _ _ _ h).mono ?_; rintro e w' ⟨rfl, rfl⟩)
        | (go_at_call 117; refine (curLeft_w _ _ _ _ _ h).mono ?_; rintro e w' ⟨rfl, n, rfl⟩))
      have z1 : ((i : Int) + (m : Int)).toNat = i + m := by omega
      have z2 : (i : Int) + (m : Int) ≤ (s.length : Int) := by omega
      have z3 : (i : Int) ≤ (i : Int) + (m : Int) := by omega
      go_quiet (fail)
      go_wp2
      have hblk := ((h.1.drewN n).set_ 1 (vInt (i + m))).drewN nq
      refine hK.out _ _ ⟨_, rfl, i + m, 0, ⟨hblk, by omega, h.2.2⟩, (((Ch.refl _ w).drewN n).setCell (by simp) _).drewN nq, by omega, Out.of_ok rfl ?_⟩
      simp [pBytes, List.drop_drop]; omega
  · have hb : (e != 0) = true := by simp [he]
    go_enter Try.func148, Try.ntmps148
    go_wp2_with (first
        | (go_at_call 115; refine (curErr_w _ _ _ _ _ h).mono ?_; rintro e w' ⟨rfl, rfl⟩))
    exact hK.out _ _ ⟨[], rfl, i, e, h, Ch.refl _ _, Nat.le_refl _, Out.elder he⟩

set_option maxHeartbeats 400000 in
theorem curAhead_w (w : World) (b : Nat) (s : Bytes) (i : Nat) (e : Int) (hl : i < s.length) (h : Cur w b s i e) :
    Calls Try.prog 182 #[vPtr b, .int .i64 1] w fun r w' => r = .returned (vStr [s[i]]) ∧ Drawn w w' := by
  refine calls_hide fun K hK => ?_
  obtain ⟨c0, c1, c2, f1, f2, l1, l2⟩ := h.facts
  have q : IntKind.i64.wrap ((i : Int) + 1) = (i : Int) + 1 := IntWalk.i64_in _ (by omega)
  have q1 : (1 : Int) ≤ (s.length : Int) - i := by omega
  have q2 : ((i : Int) + 1).toNat = i + 1 := by omega
  have q3 : (i : Int) + 1 ≤ (s.length : Int) := by omega
  have q4 : (i : Int) ≤ (i : Int) + 1 := by omega
  go_enter Try.func182, Try.ntmps182
  go_wp2_with (first
    | (go_at_call 117; refine (curLeft_w _ _ _ _ _ h).mono ?_; rintro e w' ⟨rfl, n, rfl⟩))
  go_quiet (fail)
  go_wp2
  refine hK.out _ _ ⟨?_, (Drawn.of w n).drewN _⟩
  have : (s.drop i).take 1 = [s[i]] := by
    rw [List.drop_eq_getElem_cons hl]; rfl
  simp [this]

set_option maxHeartbeats 400000 in
theorem curByte_w (w : World) (b : Nat) (s : Bytes) (i : Nat) (e : Int) (h : Cur w b s i e) :
    Calls Try.prog 175 #[vPtr b] w fun r w' => ∃ x, r = .returned (vByte x) ∧ x < 256 ∧ Read w w' b s i e pByte x := by
  refine calls_hide fun K hK => ?_
  go_enter Try.func175, Try.ntmps175
  go_wp2_with fail
  refine (curBytes_w _ _ _ _ _ _ (by decide) h).mono ?_
  rintro r w' ⟨x, rfl, i', e', hc, hch, hi, ho⟩
  rcases x with _ | ⟨a, x⟩
  · go_wp2
    refine hK.out _ _ ⟨0, rfl, by decide, i', e', hc, hch, hi, ?_⟩
    have := ho.map (f := fun s : Bytes => (s.headD 0).toNat)
    simpa [pByte] using this
  · have q : (0 : Int) < ((a :: x).length : Int) := by rw [List.length_cons]; omega
    go_wp2
    have := ho.map (f := fun s : Bytes => (s.headD 0).toNat)
    exact hK.out _ _ ⟨a.toNat, rfl, a.toNat_lt, i', e', hc, hch, hi, by simpa [pByte] using this⟩

set_option maxHeartbeats 400000 in
theorem curEnd_w (w : World) (b : Nat) (s : Bytes) (i : Nat) (e : Int) (h : Cur w b s i e) :
    Calls Try.prog 66 #[vPtr b] w fun r w' => r = .returned (vErr (if e = 0 ∧ i < s.length then 8 else e)) ∧ Ch [b] w w' := by
  refine calls_hide fun K hK => ?_
  by_cases hl : i < s.length
  · have q : (0 : Int) < (s.length : Int) - i := by omega
    go_enter Try.func66, Try.ntmps66
    go_wp2_with (first
      | (go_at_call 117; refine (curLeft_w _ _ _ _ _ h).mono ?_; rintro e w' ⟨rfl, n, rfl⟩)
      | (go_at_call 113; refine (curFail_w _ _ _ _ _ _ (h.drewN _)).mono ?_; rintro e w' ⟨rfl, e2, hc, hf, hch⟩)
      | (go_at_call 115; refine (curErr_w _ _ _ _ _ hc).mono ?_; rintro e w' ⟨rfl, rfl⟩))
    refine hK.out _ _ ⟨?_, (Drawn.ch (Drawn.of w n) [b]).trans' hch⟩
    unfold Fails at hf
    by_cases he : e = 0 <;> simp [he, hl, hf]
  · have q : (s.length : Int) - i = 0 := by have := h.2.1; omega
    go_enter Try.func66, Try.ntmps66
    go_wp2_with (first
      | (go_at_call 117; refine (curLeft_w _ _ _ _ _ h).mono ?_; rintro e w' ⟨rfl, n, rfl⟩)
      | (go_at_call 115; refine (curErr_w _ _ _ _ _ (h.drewN _)).mono ?_; rintro e w' ⟨rfl, rfl⟩))
    exact hK.out _ _ ⟨by simp [hl], Drawn.ch (Drawn.of w n) [b]⟩

theorem byte_at {s : Bytes} {i i' y : Nat} {e' : Int} (hl : i < s.length) (hi : i' ≤ s.length) (ho : Out pByte (s.drop i) 0 y (s.drop i') e') : y = s[i].toNat ∧ i' = i + 1 ∧ e' = 0 := by
  have hp : pByte (s.drop i) = .ok (s[i].toNat, s.drop (i + 1)) := by
    rw [List.drop_eq_getElem_cons hl]
    generalize s.drop (i + 1) = l
    generalize s[i] = a
    simp [pByte, pBind, pBytes, pPure]
  have h2 := ho.2 rfl
  rw [hp] at h2
  obtain ⟨h3, h4, h5⟩ := h2
  refine ⟨h4, ?_, h3⟩
  have := congrArg List.length h5
  simp at this
  omega
end Go.Proofs.Ytmojbpgabpbacaa
