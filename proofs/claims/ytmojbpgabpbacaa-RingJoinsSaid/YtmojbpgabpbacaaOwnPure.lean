/- Of ring.Owners' answer: as many as are asked for, or all that have tokens; the first ones of more are those of less; each once; each is up. Plain lists. -/
import Derived.Test.YtmojbpgabpbacaaOwners1
namespace Go.Proofs.Ytmojbpgabpbacaa

def isUp (x : Member) : Bool := decide (x.state = 1) && decide (0 < x.tokens.length)
def upN (l : List Member) : Nat := (l.filter isUp).length
def upNames (l : List Member) : List Bytes := (l.filter isUp).map Member.name
theorem places_mem {l : List Member} {s : Bytes} : (∃ p ∈ places l, s = p.name) ↔ s ∈ upNames l := by
  unfold places upNames
  constructor
  · rintro ⟨p, hp, rfl⟩
    obtain ⟨q, hq, hp⟩ := List.mem_flatten.1 hp
    obtain ⟨x, hx, rfl⟩ := List.mem_map.1 hq
    unfold placesOf at hp
    split at hp
    · obtain ⟨t, ht, rfl⟩ := List.mem_map.1 hp
      refine List.mem_map.2 ⟨x, List.mem_filter.2 ⟨hx, ?_⟩, rfl⟩
      have := List.length_pos_of_mem ht
      simp [isUp, *]
    · cases hp
  · intro h
    obtain ⟨x, hx, rfl⟩ := List.mem_map.1 h
    obtain ⟨hx, hu⟩ := List.mem_filter.1 hx
    simp only [isUp, Bool.and_eq_true, decide_eq_true_eq] at hu
    rcases ht : x.tokens with _ | ⟨t, r⟩
    · rw [ht] at hu; simp at hu
    · exact ⟨⟨t, x.name⟩, List.mem_flatten.2 ⟨_, List.mem_map.2 ⟨x, hx, rfl⟩, by simp [placesOf, hu.1, ht]⟩, rfl⟩
theorem memErr_rises {p : Option Member} {x : Member} (h : memErr p x = 0) : rises Member.name p x = true := by
  unfold memErr at h
  repeat (split at h; · first | cases h | (exfalso; revert h; decide))
  rename_i h3 _ _ _ _
  simpa using h3
theorem names_rise : ∀ (l : List Member) (p : Option Member), firstErr memErr p l = 0 → l.Pairwise (fun x y => below x.name y.name = true) ∧ ∀ q, p = some q → ∀ x ∈ l, below q.name x.name = true := by
  intro l
  induction l with
  | nil => intro p _; exact ⟨List.Pairwise.nil, fun _ _ x hx => by cases hx⟩
  | cons x r ih =>
    intro p h
    unfold firstErr at h
    split at h
    · rename_i h0
      obtain ⟨h1, h2⟩ := ih _ h
      have hx := memErr_rises h0
      refine ⟨List.pairwise_cons.2 ⟨fun y hy => h2 x rfl y hy, h1⟩, fun q hq y hy => ?_⟩
      subst hq
      rcases List.mem_cons.1 hy with rfl | hy
      · exact hx
      · exact below_trans _ _ _ hx (h2 x rfl y hy)
    · contradiction
theorem chk_names {l : List Member} (h : chkRing l = 0) : l.Pairwise (fun x y => x.name ≠ y.name) := by
  unfold chkRing at h
  split at h
  · cases h
  · refine (names_rise l none h).1.imp fun {x y} hxy e => ?_
    rw [e, below_irrefl] at hxy
    cases hxy
theorem upNames_nodup {l : List Member} (h : chkRing l = 0) : (upNames l).Nodup := by
  unfold upNames List.Nodup
  rw [List.pairwise_map]
  exact (chk_names h).sublist List.filter_sublist
theorem findMem_of {l : List Member} (h : l.Pairwise (fun x y => x.name ≠ y.name)) {x : Member} (hx : x ∈ l) : findMem l x.name = some x := by
  unfold findMem
  induction l with
  | nil => cases hx
  | cons y r ih =>
    rw [List.pairwise_cons] at h
    rcases List.mem_cons.1 hx with rfl | hx
    · simp
    · have : (y.name == x.name) = false := by simp only [beq_eq_false_iff_ne]; exact h.1 x hx
      rw [List.find?_cons, this]
      exact ih h.2 hx
section
variable {l : List Member} {Z : List Tg} {key i : Nat}
theorem turn_names (hZ : Sorted (places l) Z) (s : Bytes) : s ∈ upNames l ↔ ∃ x ∈ turn (pl Z) i (pl Z).length, s = x.name := by
  rw [← places_mem]
  have hm : ∀ x, x ∈ pl Z ↔ x ∈ places l := fun x => by
    have := (hZ.1.map (·.1)).mem_iff (a := x)
    rw [show (pl Z) = Z.map (·.1) from rfl, this]
    rw [show ((places l).zipIdx 0).map (·.1) = pl ((places l).zipIdx 0) from rfl, zipIdx_pl]
  constructor
  · rintro ⟨x, hx, rfl⟩; exact ⟨x, (turn_mem _ _ _).2 ((hm x).2 hx), rfl⟩
  · rintro ⟨x, hx, rfl⟩; exact ⟨x, (hm x).1 ((turn_mem _ _ _).1 hx), rfl⟩
theorem upN_le : upN l ≤ l.length := List.length_filter_le _ _
/-- All that are up and have tokens. -/
theorem own_all (hck : chkRing l = 0) (hZ : Sorted (places l) Z) : (picks 50 (turn (pl Z) i (pl Z).length)).Perm (upNames l) := by
  have h1 := (chkRing_ok hck).1
  have h2 : (upNames l).length = upN l := by simp [upNames, upN]
  have h3 := upN_le (l := l)
  exact picks_count (upNames_nodup hck) (turn_names hZ) (by omega)
theorem own_len (hck : chkRing l = 0) (hZ : Sorted (places l) Z) : (picks 50 (turn (pl Z) i (pl Z).length)).length = upN l := by
  rw [(own_all hck hZ).length_eq]; simp [upNames, upN]
theorem own_take (n : Int) (hn : n ≤ 50) (hck : chkRing l = 0) (hZ : Sorted (places l) Z) (m : Nat) (hm : m = min n.toNat (upN l)) :
    picks n (turn (pl Z) i (pl Z).length) = (picks 50 (turn (pl Z) i (pl Z).length)).take m ∧ (picks n (turn (pl Z) i (pl Z).length)).length = m := by
  have h1 := picks_take (n := n) (m := 50) (turn (pl Z) i (pl Z).length) hn
  have h2 := own_len (i := i) hck hZ
  have h3 : (picks n (turn (pl Z) i (pl Z).length)) = (picks 50 (turn (pl Z) i (pl Z).length)).take m := by
    rw [h1, hm]
    by_cases h : n.toNat ≤ upN l
    · rw [Nat.min_eq_left h]
    · rw [Nat.min_eq_right (by omega), List.take_of_length_le (by omega), List.take_of_length_le (by omega)]
  refine ⟨h3, ?_⟩
  rw [h3, List.length_take, h2]
  omega
theorem own_up (hck : chkRing l = 0) (hZ : Sorted (places l) Z) {s : Bytes} (hs : s ∈ picks 50 (turn (pl Z) i (pl Z).length)) : ∃ x, findMem l s = some x ∧ x.state = 1 := by
  have h1 := (own_all hck hZ).mem_iff.1 hs
  unfold upNames at h1
  obtain ⟨x, hx, rfl⟩ := List.mem_map.1 h1
  obtain ⟨hx, hu⟩ := List.mem_filter.1 hx
  simp only [isUp, Bool.and_eq_true, decide_eq_true_eq] at hu
  exact ⟨x, findMem_of (chk_names hck) hx, hu.1⟩
end
end Go.Proofs.Ytmojbpgabpbacaa
