/- Merging: plain lists. A place with a ghost: where it stood at first. -/
import Derived.Test.YtmojbpgabpbacaaSort1
namespace Go.Proofs.Ytmojbpgabpbacaa

abbrev Tg := Place × Nat
/-- The order of a stable sort. -/
def L (x y : Tg) : Prop := x.1.token < y.1.token ∨ (x.1.token = y.1.token ∧ x.2 < y.2)
theorem L.trans {x y z : Tg} (h : L x y) (k : L y z) : L x z := by unfold L at *; omega
theorem L.of_less {x y : Tg} (h : x.1.token < y.1.token) : L x y := .inl h
theorem L.of_not {x y : Tg} (h : ¬ y.1.token < x.1.token) (k : x.2 < y.2) : L x y := by unfold L; omega
abbrev Srt (g : List Tg) : Prop := g.Pairwise L
def Apart (X Y : List Tg) : Prop := ∀ x ∈ X, ∀ y ∈ Y, x.2 < y.2
def Low (Y : List Tg) (x : Tg) (i : Nat) : Prop := ∀ y ∈ Y.take i, L y x
def High (Y : List Tg) (x : Tg) (j : Nat) : Prop := ∀ y ∈ Y.drop j, L x y
theorem Low.zero (Y : List Tg) (x : Tg) : Low Y x 0 := fun y hy => by simp at hy
theorem High.all (Y : List Tg) (x : Tg) {n : Nat} (h : Y.length ≤ n) : High Y x n := fun y hy => by rw [List.drop_of_length_le h] at hy; cases hy
theorem take_last (Y : List Tg) {h : Nat} (hh : h < Y.length) (hS : Srt Y) : ∀ y ∈ Y.take h, L y Y[h] := by
  have := hS
  rw [← List.take_append_drop h Y, Srt, List.pairwise_append] at this
  exact fun y hy => this.2.2 y hy _ (by rw [List.drop_eq_getElem_cons hh]; exact List.mem_cons_self)
theorem drop_first (Y : List Tg) {h : Nat} (hh : h < Y.length) (hS : Srt Y) : ∀ y ∈ Y.drop (h + 1), L Y[h] y := by
  have := hS
  rw [← List.take_append_drop h Y, Srt, List.pairwise_append, List.drop_eq_getElem_cons hh, List.pairwise_cons] at this
  exact this.2.1.1
theorem Low.step {Y : List Tg} {x : Tg} {h : Nat} (hh : h < Y.length) (hS : Srt Y) (hl : L Y[h] x) : Low Y x (h + 1) := fun y hy => by
  rw [List.take_succ_eq_append_getElem hh, List.mem_append, List.mem_singleton] at hy
  rcases hy with hy | rfl
  · exact (take_last Y hh hS y hy).trans hl
  · exact hl
theorem High.step {Y : List Tg} {x : Tg} {h : Nat} (hh : h < Y.length) (hS : Srt Y) (hl : L x Y[h]) : High Y x h := fun y hy => by
  rw [List.drop_eq_getElem_cons hh, List.mem_cons] at hy
  rcases hy with rfl | hy
  · exact hl
  · exact hl.trans (drop_first Y hh hS y hy)
theorem Srt.take {Y : List Tg} (h : Srt Y) (n : Nat) : Srt (Y.take n) := by
  have := h
  rw [← List.take_append_drop n Y, Srt, List.pairwise_append] at this
  exact this.1
theorem Srt.drop {Y : List Tg} (h : Srt Y) (n : Nat) : Srt (Y.drop n) := by
  have := h
  rw [← List.take_append_drop n Y, Srt, List.pairwise_append] at this
  exact this.2.1
/-- One into many. -/
theorem Srt.insert {Y : List Tg} {x : Tg} {i : Nat} (h : Srt Y) (hl : Low Y x i) (hh : High Y x i) : Srt (Y.take i ++ (x :: Y.drop i)) := by
  rw [Srt, List.pairwise_append, List.pairwise_cons]
  refine ⟨h.take i, ⟨hh, h.drop i⟩, fun a ha b hb => ?_⟩
  rcases List.mem_cons.1 hb with rfl | hb
  · exact hl a ha
  · exact (hl a ha).trans (hh b hb)
theorem perm_insert (Y : List Tg) (x : Tg) (i : Nat) : (Y.take i ++ (x :: Y.drop i)).Perm (x :: Y) := by
  have := List.perm_middle (a := x) (l₁ := Y.take i) (l₂ := Y.drop i)
  rwa [List.take_append_drop] at this
/-- What stands left of all of Z2 stands so whatever the order. -/
theorem Srt.join {X1 X2 Y1 Y2 Z1 Z2 : List Tg} (h1 : Z1.Perm (X1 ++ Y1)) (h2 : Z2.Perm (X2 ++ Y2)) (s1 : Srt Z1) (s2 : Srt Z2) (hX : Srt (X1 ++ X2)) (hY : Srt (Y1 ++ Y2)) (hxy : ∀ x ∈ X1, ∀ y ∈ Y2, L x y) (hyx : ∀ y ∈ Y1, ∀ x ∈ X2, L y x) : Srt (Z1 ++ Z2) := by
  rw [Srt, List.pairwise_append] at hX hY ⊢
  refine ⟨s1, s2, fun a ha b hb => ?_⟩
  rcases List.mem_append.1 (h1.mem_iff.1 ha) with ha | ha <;> rcases List.mem_append.1 (h2.mem_iff.1 hb) with hb | hb
  · exact hX.2.2 a ha b hb
  · exact hxy a ha b hb
  · exact hyx a ha b hb
  · exact hY.2.2 a ha b hb
theorem perm_join {X1 X2 Y1 Y2 Z1 Z2 : List Tg} (h1 : Z1.Perm (X1 ++ Y1)) (h2 : Z2.Perm (X2 ++ Y2)) : (Z1 ++ Z2).Perm ((X1 ++ X2) ++ (Y1 ++ Y2)) := by
  refine (h1.append h2).trans ?_
  simp only [List.append_assoc]
  refine List.Perm.append_left _ ?_
  rw [← List.append_assoc, ← List.append_assoc]
  exact List.perm_append_comm.append_right _
end Go.Proofs.Ytmojbpgabpbacaa
