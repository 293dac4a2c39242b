/- Which names are taken in turn: plain lists. -/
import Derived.Test.YtmojbpgabpbacaaRound
namespace Go.Proofs.Ytmojbpgabpbacaa

/-- One place more: its name is taken, where there is still one wanted and it isn't there. -/
def take1 (n : Int) (out : List Bytes) (x : Place) : List Bytes := if n ≤ out.length then out else if x.name ∈ out then out else out ++ [x.name]
def picks (n : Int) (ps : List Place) : List Bytes := ps.foldl (take1 n) []
theorem picks_snoc (n : Int) (ps : List Place) (x : Place) : picks n (ps ++ [x]) = take1 n (picks n ps) x := by simp [picks]
theorem take1_full {n : Int} {out : List Bytes} (h : n ≤ out.length) (x : Place) : take1 n out x = out := if_pos h
theorem fold_full {n : Int} (ps : List Place) : ∀ (out : List Bytes), n ≤ out.length → ps.foldl (take1 n) out = out := by
  induction ps with
  | nil => intro out _; rfl
  | cons x r ih => intro out h; rw [List.foldl_cons, take1_full h, ih out h]
/-- Once there are enough, what comes behind changes nothing. -/
theorem picks_full {n : Int} {ps qs : List Place} (h : n ≤ (picks n ps).length) : picks n (ps ++ qs) = picks n ps := by
  unfold picks at h ⊢
  rw [List.foldl_append, fold_full qs _ h]
theorem take1_nodup {n : Int} {out : List Bytes} (h : out.Nodup) (x : Place) : (take1 n out x).Nodup := by
  unfold take1
  split
  · exact h
  · split
    · exact h
    · rename_i h2
      rw [List.nodup_append]
      refine ⟨h, by simp, fun a ha b hb => ?_⟩
      rw [List.mem_singleton.1 hb]
      rintro rfl
      exact h2 ha
theorem fold_nodup {n : Int} (ps : List Place) : ∀ out : List Bytes, out.Nodup → (ps.foldl (take1 n) out).Nodup := by
  induction ps with
  | nil => intro out h; exact h
  | cons x r ih => intro out h; exact ih _ (take1_nodup h x)
theorem picks_nodup (n : Int) (ps : List Place) : (picks n ps).Nodup := fold_nodup ps [] List.nodup_nil
theorem take1_mem {n : Int} {out : List Bytes} {x : Place} {s : Bytes} (h : s ∈ take1 n out x) : s ∈ out ∨ s = x.name := by
  unfold take1 at h
  split at h
  · exact .inl h
  · split at h
    · exact .inl h
    · simpa using h
theorem fold_mem {n : Int} (ps : List Place) : ∀ (out : List Bytes) (s : Bytes), s ∈ ps.foldl (take1 n) out → s ∈ out ∨ ∃ x ∈ ps, s = x.name := by
  induction ps with
  | nil => intro out s h; exact .inl h
  | cons x r ih =>
    intro out s h
    rcases ih _ s h with h | ⟨y, hy, e⟩
    · rcases take1_mem h with h | h
      · exact .inl h
      · exact .inr ⟨x, by simp, h⟩
    · exact .inr ⟨y, by simp [hy], e⟩
theorem picks_mem {n : Int} {ps : List Place} {s : Bytes} (h : s ∈ picks n ps) : ∃ x ∈ ps, s = x.name := by
  rcases fold_mem ps [] s h with h | h
  · cases h
  · exact h
/-- Of less, the first ones of more. -/
theorem picks_take {n m : Int} (ps : List Place) (hnm : n ≤ m) : picks n ps = (picks m ps).take n.toNat := by
  have key : ∀ (ps : List Place) (out : List Bytes), ps.foldl (take1 n) (out.take n.toNat) = (ps.foldl (take1 m) out).take n.toNat := by
    intro ps
    induction ps with
    | nil => intro out; rfl
    | cons x r ih =>
      intro out
      rw [List.foldl_cons, List.foldl_cons]
      by_cases h : n ≤ out.length
      · have h1 : n ≤ ((out.take n.toNat).length : Int) := by rw [List.length_take]; omega
        have h2 : (take1 m out x).take n.toNat = out.take n.toNat := by
          unfold take1
          split
          · rfl
          · split
            · rfl
            · exact List.take_append_of_le_length (by omega)
        rw [take1_full h1, ← h2]
        exact ih _
      · have h1 : out.take n.toNat = out := List.take_of_length_le (by omega)
        have h2 : ¬ m ≤ (out.length : Int) := by omega
        have h3 : (take1 n out x) = (take1 m out x).take n.toNat := by
          unfold take1
          rw [if_neg h, if_neg h2]
          split
          · exact h1.symm
          · exact (List.take_of_length_le (by simp; omega)).symm
        rw [h1, h3]
        exact ih _
  have := key ps []
  simpa [picks] using this

theorem take1_len {n : Int} {out : List Bytes} (x : Place) : out.length ≤ (take1 n out x).length := by
  unfold take1
  split
  · exact Nat.le_refl _
  · split <;> simp
theorem fold_len {n : Int} (ps : List Place) : ∀ out : List Bytes, out.length ≤ (ps.foldl (take1 n) out).length := by
  induction ps with
  | nil => intro out; exact Nat.le_refl _
  | cons x r ih => intro out; exact Nat.le_trans (take1_len x) (ih _)
theorem take1_sub {n : Int} {out : List Bytes} {x : Place} {s : Bytes} (h : s ∈ out) : s ∈ take1 n out x := by
  unfold take1
  split
  · exact h
  · split
    · exact h
    · simp [h]
theorem fold_sub {n : Int} (ps : List Place) : ∀ (out : List Bytes) (s : Bytes), s ∈ out → s ∈ ps.foldl (take1 n) out := by
  induction ps with
  | nil => intro out s h; exact h
  | cons x r ih => intro out s h; exact ih _ _ (take1_sub h)
theorem fold_all {n : Int} (ps : List Place) : ∀ out : List Bytes, ((ps.foldl (take1 n) out).length : Int) < n → ∀ x ∈ ps, x.name ∈ ps.foldl (take1 n) out := by
  induction ps with
  | nil => intro out _ x hx; cases hx
  | cons y r ih =>
    intro out h x hx
    rw [List.foldl_cons] at h ⊢
    rcases List.mem_cons.1 hx with rfl | hx
    · refine fold_sub r _ _ ?_
      have h1 := fold_len (n := n) r (take1 n out x)
      have h2 := take1_len (n := n) (out := out) x
      have h3 : ¬ n ≤ (out.length : Int) := by omega
      unfold take1
      rw [if_neg h3]
      split
      · assumption
      · simp
    · exact ih _ h x hx
/-- Where there are fewer than asked for, all are there. -/
theorem picks_all {n : Int} {ps : List Place} (h : ((picks n ps).length : Int) < n) : ∀ x ∈ ps, x.name ∈ picks n ps := fold_all ps [] h
theorem nodup_len {α : Type} [DecidableEq α] : ∀ (l m : List α), l.Nodup → (∀ s ∈ l, s ∈ m) → l.length ≤ m.length := by
  intro l
  induction l with
  | nil => intro m _ _; simp
  | cons a r ih =>
    intro m h hs
    rw [List.nodup_cons] at h
    have ha := hs a (by simp)
    have := ih (m.erase a) h.2 (fun s hr => by
      have hne : s ≠ a := fun e => by subst e; exact h.1 hr
      exact (List.mem_erase_of_ne hne).2 (hs s (by simp [hr])))
    rw [List.length_erase_of_mem ha] at this
    have hp := List.length_pos_of_mem ha
    simp only [List.length_cons]
    omega
/-- As many as there are names, where those are fewer than asked for. -/
theorem picks_count {n : Int} {ps : List Place} {names : List Bytes} (hnd : names.Nodup) (hm : ∀ s, s ∈ names ↔ ∃ x ∈ ps, s = x.name) (hn : (names.length : Int) < n) : (picks n ps).Perm names := by
  have hsub : (picks n ps).length ≤ names.length := nodup_len _ _ (picks_nodup n ps) (fun s hs => (hm s).2 (picks_mem hs))
  refine (List.perm_ext_iff_of_nodup (picks_nodup n ps) hnd).2 fun s => ⟨fun hs => (hm s).2 (picks_mem hs), fun hs => ?_⟩
  obtain ⟨x, hx, rfl⟩ := (hm s).1 hs
  exact picks_all (by omega) x hx

theorem turn_mem (xs : List Place) (i : Nat) (x : Place) : x ∈ turn xs i xs.length ↔ x ∈ xs := by
  unfold turn
  rw [List.mem_map]
  constructor
  · rintro ⟨j, hj, rfl⟩
    rw [List.mem_range] at hj
    have hm : (i + j) % xs.length < xs.length := Nat.mod_lt _ (by omega)
    rw [List.getElem?_eq_getElem hm]
    exact List.getElem_mem hm
  · intro hx
    obtain ⟨m, hm, rfl⟩ := List.mem_iff_getElem.1 hx
    have hr : i % xs.length < xs.length := Nat.mod_lt _ (by omega)
    refine ⟨(m + (xs.length - i % xs.length)) % xs.length, List.mem_range.2 (Nat.mod_lt _ (by omega)), ?_⟩
    have e : (i + (m + (xs.length - i % xs.length)) % xs.length) % xs.length = m := by
      rw [Nat.add_mod, Nat.mod_mod]
      by_cases h : m + (xs.length - i % xs.length) < xs.length
      · rw [Nat.mod_eq_of_lt h, show i % xs.length + (m + (xs.length - i % xs.length)) = m + xs.length by omega, Nat.add_mod_right, Nat.mod_eq_of_lt hm]
      · have e2 : (m + (xs.length - i % xs.length)) % xs.length = m + (xs.length - i % xs.length) - xs.length := by rw [Nat.mod_eq_sub_mod (by omega), Nat.mod_eq_of_lt (by omega)]
        rw [e2, show i % xs.length + (m + (xs.length - i % xs.length) - xs.length) = m by omega, Nat.mod_eq_of_lt hm]
    rw [e, List.getElem?_eq_getElem hm]
    rfl
theorem srt_tokens {Z : List Tg} (h : Srt Z) {a b : Nat} (hab : a ≤ b) {x y : Place} (hx : (pl Z)[a]? = some x) (hy : (pl Z)[b]? = some y) : x.token ≤ y.token := by
  unfold pl at hx hy
  rw [List.getElem?_map] at hx hy
  obtain ⟨x', hx', rfl⟩ := Option.map_eq_some_iff.1 hx
  obtain ⟨y', hy', rfl⟩ := Option.map_eq_some_iff.1 hy
  obtain ⟨ha, rfl⟩ := List.getElem?_eq_some_iff.1 hx'
  obtain ⟨hb, rfl⟩ := List.getElem?_eq_some_iff.1 hy'
  rcases Nat.lt_or_eq_of_le hab with h1 | rfl
  · have := List.pairwise_iff_getElem.1 h a b ha hb h1
    unfold L at this
    omega
  · exact Nat.le_refl _
theorem First.unique {Z : List Tg} (h : Srt Z) {key i j : Nat} (hi : First (pl Z) key i) (hj : First (pl Z) key j) : i = j := by
  have half : ∀ i j, First (pl Z) key i → First (pl Z) key j → ¬ i < j := fun i j hi hj hlt => by
    have h1 : j - 1 < (pl Z).length := by have := hj.1; omega
    have h2 : i < (pl Z).length := by have := hj.1; omega
    have a1 := hj.2.1 _ (List.getElem?_eq_getElem h1) (by omega)
    have a2 := hi.2.2 _ (List.getElem?_eq_getElem h2)
    have a3 := srt_tokens h (a := i) (b := j - 1) (by omega) (List.getElem?_eq_getElem h2) (List.getElem?_eq_getElem h1)
    omega
  have h1 := half i j hi hj
  have h2 := half j i hj hi
  omega
end Go.Proofs.Ytmojbpgabpbacaa
