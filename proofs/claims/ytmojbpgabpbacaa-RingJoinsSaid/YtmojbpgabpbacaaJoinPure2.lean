/- The least name that isn't there yet: plain lists. -/
import Derived.Test.YtmojbpgabpbacaaJoinPure
namespace Go.Proofs.Ytmojbpgabpbacaa

/-- Above what is there of J, n long. -/
def abv (J : List Member) (n : Nat) (x : Member) : Prop := 0 < n → ∀ q, J[n - 1]? = some q → below q.name x.name = true
/-- The place of the least one above, among the first i; -1: there is none. -/
def Best (J : List Member) (n : Nat) (all : List Member) (i : Nat) (z : Int) : Prop :=
  (z = -1 ∧ ∀ j x, j < i → all[j]? = some x → ¬ abv J n x) ∨ (∃ (k : Nat) (y : Member), z = (k : Int) ∧ k < i ∧ all[k]? = some y ∧ abv J n y ∧ ∀ j x, j < i → all[j]? = some x → abv J n x → below x.name y.name = false)
section
variable {J all : List Member} {n i : Nat} {z : Int}
theorem Best.start : Best J n all 0 (-1) := .inl ⟨rfl, fun j x hj => absurd hj (by omega)⟩
theorem Best.skip {x : Member} (h : Best J n all i z) (hx : all[i]? = some x) (hn : ¬ abv J n x) : Best J n all (i + 1) z := by
  rcases h with ⟨h1, h2⟩ | ⟨k, y, h1, h2, h3, h4, h5⟩
  · refine .inl ⟨h1, fun j u hj hu => ?_⟩
    by_cases e : j = i
    · subst e; rw [hx] at hu; cases hu; exact hn
    · exact h2 j u (by omega) hu
  · refine .inr ⟨k, y, h1, by omega, h3, h4, fun j u hj hu ha => ?_⟩
    by_cases e : j = i
    · subst e; rw [hx] at hu; cases hu; exact absurd ha hn
    · exact h5 j u (by omega) hu ha
theorem Best.keep {x y : Member} {k : Nat} (h : Best J n all i (k : Int)) (hx : all[i]? = some x) (hk : all[k]? = some y) (hb : below x.name y.name = false) : Best J n all (i + 1) (k : Int) := by
  rcases h with ⟨h1, _⟩ | ⟨k', y', h1, h2, h3, h4, h5⟩
  · omega
  · obtain rfl : k = k' := by omega
    rw [hk] at h3
    cases h3
    refine .inr ⟨k, y, rfl, by omega, hk, h4, fun j u hj hu ha => ?_⟩
    by_cases e : j = i
    · subst e; rw [hx] at hu; cases hu; exact hb
    · exact h5 j u (by omega) hu ha
theorem Best.first {x : Member} (h : Best J n all i (-1)) (hx : all[i]? = some x) (ha : abv J n x) : Best J n all (i + 1) (i : Int) := by
  rcases h with ⟨_, h2⟩ | ⟨k', y', h1, _⟩
  · refine .inr ⟨i, x, rfl, by omega, hx, ha, fun j u hj hu hau => ?_⟩
    by_cases e : j = i
    · subst e; rw [hx] at hu; cases hu; exact below_irrefl _
    · exact absurd hau (h2 j u (by omega) hu)
  · omega
theorem Best.less {x y : Member} {k : Nat} (h : Best J n all i (k : Int)) (hx : all[i]? = some x) (hk : all[k]? = some y) (ha : abv J n x) (hb : below x.name y.name = true) : Best J n all (i + 1) (i : Int) := by
  rcases h with ⟨h1, _⟩ | ⟨k', y', h1, h2, h3, h4, h5⟩
  · omega
  · obtain rfl : k = k' := by omega
    rw [hk] at h3
    cases h3
    refine .inr ⟨i, x, rfl, by omega, hx, ha, fun j u hj hu hau => ?_⟩
    by_cases e : j = i
    · subst e; rw [hx] at hu; cases hu; exact below_irrefl _
    · have h6 := h5 j u (by omega) hu hau
      rcases h7 : below u.name x.name with _ | _
      · rfl
      · rw [below_trans _ _ _ h7 hb] at h6; cases h6
theorem Best.place (h : Best J n all i z) : z = -1 ∨ ∃ (k : Nat) (y : Member), z = (k : Int) ∧ k < i ∧ all[k]? = some y := by
  rcases h with ⟨h1, _⟩ | ⟨k, y, h1, h2, h3, _⟩
  · exact .inl h1
  · exact .inr ⟨k, y, h1, h2, h3⟩
end
section
variable {a b : List Member} {n : Nat}
theorem pickM_mem {s : Bytes} {z : Member} (h : pickM a b s = some z) : (z ∈ a ∨ z ∈ b) ∧ z.name = s := by
  unfold pickM at h
  rcases hfa : findMem a s with _ | x
  · rw [hfa] at h
    obtain ⟨h1, h2⟩ := findMem_some h
    exact ⟨.inr h1, h2⟩
  · obtain ⟨a1, a2⟩ := findMem_some hfa
    rcases hfb : findMem b s with _ | y
    · rw [hfa, hfb] at h
      cases h
      exact ⟨.inl a1, a2⟩
    · obtain ⟨b1, b2⟩ := findMem_some hfb
      rw [hfa, hfb] at h
      cases h
      rcases cnt_or x y with e | e <;> rw [e]
      · exact ⟨.inl a1, a2⟩
      · exact ⟨.inr b1, b2⟩
theorem joinM_at (ha : Rises a) (hb : Rises b) {k : Nat} {z : Member} (hk : (joinM a b)[k]? = some z) : pickM a b z.name = some z := (joinM_spec a b ha hb).2.1 z (List.mem_of_getElem? hk)
theorem rises_at {J : List Member} (h : Rises J) {i j : Nat} {x y : Member} (hx : J[i]? = some x) (hy : J[j]? = some y) (hb : below x.name y.name = true) : i < j := by
  obtain ⟨hi, rfl⟩ := List.getElem?_eq_some_iff.1 hx
  obtain ⟨hj, rfl⟩ := List.getElem?_eq_some_iff.1 hy
  rcases Nat.lt_trichotomy i j with h1 | rfl | h1
  · exact h1
  · rw [below_irrefl] at hb; cases hb
  · have := List.pairwise_iff_getElem.1 h j i hj hi h1
    rw [below_asymm _ _ this] at hb; cases hb
/-- None is above: all are there. -/
theorem best_none (ha : Rises a) (hb : Rises b) (hn : n ≤ (joinM a b).length) (h : Best (joinM a b) n (a ++ b) (a ++ b).length (-1)) : n = (joinM a b).length := by
  rcases Nat.lt_or_ge n (joinM a b).length with hlt | hge
  · exfalso
    have hz := List.getElem?_eq_getElem hlt
    obtain ⟨z, hz'⟩ : ∃ z, (joinM a b)[n] = z := ⟨_, rfl⟩
    rw [hz'] at hz
    obtain ⟨h1, _⟩ := pickM_mem (joinM_at ha hb hz)
    obtain ⟨j, hj⟩ := List.mem_iff_getElem?.1 (show z ∈ a ++ b by simpa using h1)
    rcases h with ⟨_, h2⟩ | ⟨k, y, h3, _⟩
    · refine h2 j z (List.getElem?_eq_some_iff.1 hj).1 hj (fun h0 q hq => ?_)
      have hr := (joinM_spec a b ha hb).1
      obtain ⟨hq1, rfl⟩ := List.getElem?_eq_some_iff.1 hq
      obtain ⟨hz1, rfl⟩ := List.getElem?_eq_some_iff.1 hz
      exact List.pairwise_iff_getElem.1 hr _ _ hq1 hz1 (by omega)
    · omega
  · omega
/-- The least one above has the next name. -/
theorem best_next (ha : Rises a) (hb : Rises b) (hn : n ≤ (joinM a b).length) {k : Nat} {y : Member} (h : Best (joinM a b) n (a ++ b) (a ++ b).length (k : Int)) (hy : (a ++ b)[k]? = some y) :
    ∃ z, (joinM a b)[n]? = some z ∧ z.name = y.name ∧ pickM a b y.name = some z := by
  have hr := (joinM_spec a b ha hb).1
  rcases h with ⟨h1, _⟩ | ⟨k', y', h1, h2, h3, h4, h5⟩
  · omega
  · obtain rfl : k = k' := by omega
    rw [hy] at h3
    cases h3
    obtain ⟨u, hu, hun⟩ := (joinM_spec a b ha hb).2.2 y (by simpa using List.mem_of_getElem? hy)
    obtain ⟨m, hm⟩ := List.mem_iff_getElem?.1 hu
    have hml := (List.getElem?_eq_some_iff.1 hm).1
    have hnm : n ≤ m := by
      rcases Nat.eq_zero_or_pos n with h0 | h0
      · omega
      · have hq := List.getElem?_eq_getElem (show n - 1 < (joinM a b).length by omega)
        have := rises_at hr hq hm (by rw [hun]; exact h4 h0 _ hq)
        omega
    have hz := List.getElem?_eq_getElem (show n < (joinM a b).length by omega)
    obtain ⟨z, hz'⟩ : ∃ z, (joinM a b)[n]'(by omega) = z := ⟨_, rfl⟩
    rw [hz'] at hz
    obtain ⟨h6, _⟩ := pickM_mem (joinM_at ha hb hz)
    obtain ⟨j, hj⟩ := List.mem_iff_getElem?.1 (show z ∈ a ++ b by simpa using h6)
    have hza : abv (joinM a b) n z := fun h0 q hq => by
      obtain ⟨hq1, rfl⟩ := List.getElem?_eq_some_iff.1 hq
      obtain ⟨hz1, rfl⟩ := List.getElem?_eq_some_iff.1 hz
      exact List.pairwise_iff_getElem.1 hr _ _ hq1 hz1 (by omega)
    have h7 := h5 j z (List.getElem?_eq_some_iff.1 hj).1 hj hza
    have hmn : m = n := by
      rcases Nat.lt_or_eq_of_le hnm with h8 | h8
      · exfalso
        obtain ⟨hz1, rfl⟩ := List.getElem?_eq_some_iff.1 hz
        obtain ⟨hm1, rfl⟩ := List.getElem?_eq_some_iff.1 hm
        have := List.pairwise_iff_getElem.1 hr _ _ hz1 hm1 h8
        rw [hun, h7] at this
        cases this
      · exact h8.symm
    subst hmn
    rw [hm] at hz
    cases hz
    exact ⟨u, hm, hun, by rw [← hun]; exact joinM_at ha hb hm⟩
end
end Go.Proofs.Ytmojbpgabpbacaa
