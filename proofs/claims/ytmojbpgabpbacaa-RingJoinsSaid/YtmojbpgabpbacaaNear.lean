/- The reference's Owners takes, one after the other, the nearest place whose name isn't there: what 'picks' takes in turn. Plain lists. -/
import Derived.Test.YtmojbpgabpbacaaOwnPure
namespace Go.Proofs.Ytmojbpgabpbacaa

theorem picks_sub {n : Int} {ps qs : List Place} {s : Bytes} (h : s ∈ picks n ps) : s ∈ picks n (ps ++ qs) := by
  unfold picks at h ⊢
  rw [List.foldl_append]
  exact fold_sub _ _ _ h
theorem take_self {α : Type} {l : List α} {k : Nat} (h : l.length ≤ k) : l.take k = l := List.take_of_length_le h
theorem next_some {k : Nat} {T pre post : List Place} {z : Place} {out : List Bytes} (hout : picks (k : Int) T = out) (hlen : out.length = k) (hT : T = pre ++ z :: post) (hpre : ∀ y ∈ pre, y.name ∈ out) (hz : z.name ∉ out) :
    picks ((k + 1 : Nat) : Int) T = out ++ [z.name] := by
  have hT' : T = (pre ++ [z]) ++ post := by rw [hT]; simp
  have sub : ∀ (m : Int), ∀ s ∈ picks m pre, s ∈ out := fun m s hs => by
    obtain ⟨x, hx, rfl⟩ := picks_mem hs
    exact hpre x hx
  have c1 : picks (k : Int) pre = out := by
    by_cases h : ((picks (k : Int) pre).length : Int) < k
    · exfalso
      have h1 : z.name ∈ picks (k : Int) (pre ++ [z]) := by
        rw [picks_snoc]
        unfold take1
        rw [if_neg (by omega), if_neg (fun hm => hz (sub _ _ hm))]
        simp
      have h2 := picks_sub (qs := post) h1
      rw [← hT', hout] at h2
      exact hz h2
    · have := picks_full (qs := z :: post) (show (k : Int) ≤ (picks (k : Int) pre).length by omega)
      rw [← hT, hout] at this
      exact this.symm
  have c2 : picks ((k + 1 : Nat) : Int) pre = out := by
    have h1 := picks_take (n := (k : Int)) (m := ((k + 1 : Nat) : Int)) pre (by omega)
    have h2 := nodup_len _ out (picks_nodup ((k + 1 : Nat) : Int) pre) (sub _)
    rw [c1, Int.toNat_natCast, take_self (by omega)] at h1
    exact h1.symm
  have c3 : picks ((k + 1 : Nat) : Int) (pre ++ [z]) = out ++ [z.name] := by
    rw [picks_snoc, c2]
    unfold take1
    rw [if_neg (by omega), if_neg hz]
  rw [hT', picks_full (by rw [c3]; simp; omega), c3]
theorem next_none {k : Nat} {n : Int} {T : List Place} {out : List Bytes} (hout : picks (k : Int) T = out) (hlen : out.length = k) (hk : (k : Int) ≤ n) (h : ∀ y ∈ T, y.name ∈ out) : picks n T = out := by
  have h1 := picks_take (n := (k : Int)) (m := n) T hk
  have h2 := nodup_len _ out (picks_nodup n T) (fun s hs => by
    obtain ⟨x, hx, rfl⟩ := picks_mem hs
    exact h x hx)
  rw [Int.toNat_natCast, take_self (by omega), hout] at h1
  exact h1.symm
theorem picks_zero {n : Int} (h : n ≤ 0) (T : List Place) : picks n T = [] := fold_full T [] (by simpa using h)

/-- How far a token is from a key, round. -/
def dst (t key : Nat) : Nat := (t + 18446744073709551616 - key) % 18446744073709551616
theorem dst_ge {t key : Nat} (h : key ≤ t) (ht : t < 18446744073709551616) : dst t key = t - key := by unfold dst; omega
theorem dst_lt {t key : Nat} (h : t < key) (ht : key < 18446744073709551616) : dst t key = t + 18446744073709551616 - key := by unfold dst; omega
def RL (key : Nat) (x y : Tg) : Prop := dst x.1.token key < dst y.1.token key ∨ (dst x.1.token key = dst y.1.token key ∧ x.2 < y.2)
theorem turn_rot (xs : List Place) (i : Nat) (hi : i ≤ xs.length) : turn xs i xs.length = xs.drop i ++ xs.take i := by
  apply List.ext_getElem?
  intro j
  unfold turn
  by_cases hj : j < xs.length
  · have hx : (i + j) % xs.length < xs.length := Nat.mod_lt _ (by omega)
    rw [List.getElem?_map, List.getElem?_range hj, Option.map_some, List.getElem?_eq_getElem hx]
    by_cases h : j < xs.length - i
    · rw [List.getElem?_append_left (by rw [List.length_drop]; exact h), List.getElem?_drop]
      have e : (i + j) % xs.length = i + j := Nat.mod_eq_of_lt (by omega)
      rw [List.getElem?_eq_getElem (show i + j < xs.length by omega)]
      simp [e]
    · rw [List.getElem?_append_right (by rw [List.length_drop]; omega), List.length_drop, List.getElem?_take, if_pos (by omega)]
      have e : (i + j) % xs.length = j - (xs.length - i) := by
        rw [Nat.mod_eq_sub_mod (by omega), Nat.mod_eq_of_lt (by omega)]
        omega
      rw [List.getElem?_eq_getElem (show j - (xs.length - i) < xs.length by omega)]
      simp [e]
  · rw [List.getElem?_eq_none (by simp; omega), List.getElem?_eq_none (by simp; omega)]
theorem srt_first {Z : List Tg} (hs : Srt Z) {key i : Nat} (hf : First (pl Z) key i) : (∀ x ∈ Z.take i, x.1.token < key) ∧ ∀ x ∈ Z.drop i, key ≤ x.1.token := by
  obtain ⟨h1, h2, h3⟩ := hf
  rw [pl_len] at h1
  have hp := List.pairwise_iff_getElem.1 hs
  constructor
  · intro x hx
    obtain ⟨j, hj, rfl⟩ := List.getElem_of_mem hx
    rw [List.length_take] at hj
    rw [List.getElem_take]
    have hlast : Z[i - 1].1.token < key := h2 _ (by simp [pl, List.getElem?_eq_getElem (show i - 1 < Z.length by omega)]) (by omega)
    by_cases e : j = i - 1
    · subst e; exact hlast
    · have := hp j (i - 1) (by omega) (by omega) (by omega)
      unfold L at this
      omega
  · intro x hx
    obtain ⟨j, hj, rfl⟩ := List.getElem_of_mem hx
    rw [List.length_drop] at hj
    rw [List.getElem_drop]
    have hfst : key ≤ Z[i].1.token := h3 _ (by simp [pl, List.getElem?_eq_getElem (show i < Z.length by omega)])
    by_cases e : j = 0
    · subst e; exact hfst
    · have := hp i (i + j) (by omega) (by omega) (by omega)
      unfold L at this
      omega
theorem rot_near {Z : List Tg} (hs : Srt Z) {key i : Nat} (hk : key < 18446744073709551616) (ht : ∀ x ∈ Z, x.1.token < 18446744073709551616) (hf : First (pl Z) key i) : (Z.drop i ++ Z.take i).Pairwise (RL key) := by
  obtain ⟨hlo, hhi⟩ := srt_first hs hf
  rw [List.pairwise_append]
  have t1 : ∀ x ∈ Z.drop i, dst x.1.token key = x.1.token - key := fun x hx => dst_ge (hhi x hx) (ht x (List.mem_of_mem_drop hx))
  have t2 : ∀ x ∈ Z.take i, dst x.1.token key = x.1.token + 18446744073709551616 - key := fun x hx => dst_lt (hlo x hx) hk
  refine ⟨?_, ?_, fun x hx y hy => ?_⟩
  · refine List.Pairwise.imp_of_mem ?_ (hs.sublist (List.drop_sublist _ _))
    intro x y hx hy h
    unfold RL L at *
    rw [t1 x hx, t1 y hy]
    have := hhi x hx
    have := hhi y hy
    omega
  · refine List.Pairwise.imp_of_mem ?_ (hs.sublist (List.take_sublist _ _))
    intro x y hx hy h
    unfold RL L at *
    rw [t2 x hx, t2 y hy]
    omega
  · unfold RL
    rw [t1 x hx, t2 y hy]
    have := ht x (List.mem_of_mem_drop hx)
    left
    omega

/-- Where the search stands, the first m places seen. -/
def Near (l : List Member) (ps : List Place) (key : Nat) (out : List Bytes) (m : Nat) (best : Int) (far : Nat) : Prop :=
  (best = -1 ∧ ∀ j p, j < m → ps[j]? = some p → p.name ∈ out) ∨
  (∃ (bi : Nat) (x : Member) (j : Nat) (p : Place), best = (bi : Int) ∧ l[bi]? = some x ∧ j < m ∧ ps[j]? = some p ∧ p.name = x.name ∧ p.name ∉ out ∧ far = dst p.token key ∧
    ∀ j' p', j' < m → ps[j']? = some p' → p'.name ∉ out → far ≤ dst p'.token key ∧ (dst p'.token key = far → j ≤ j'))
section
variable {l : List Member} {ps : List Place} {key m : Nat} {out : List Bytes} {best : Int} {far : Nat}
theorem Near.start (f : Nat) : Near l ps key out 0 (-1) f := .inl ⟨rfl, fun j p hj => absurd hj (by omega)⟩
theorem Near.skip {m' : Nat} (h : Near l ps key out m best far) (hs : ∀ j p, m ≤ j → j < m' → ps[j]? = some p → p.name ∈ out) : Near l ps key out (max m m') best far := by
  rcases h with ⟨h1, h2⟩ | ⟨bi, x, j, p, h1, h2, h3, h4, h5, h6, h7, h8⟩
  · refine .inl ⟨h1, fun j p hj hp => ?_⟩
    by_cases h : j < m
    · exact h2 j p h hp
    · exact hs j p (by omega) (by omega) hp
  · refine .inr ⟨bi, x, j, p, h1, h2, by omega, h4, h5, h6, h7, fun j' p' hj' hp' hn => ?_⟩
    by_cases h : j' < m
    · exact h8 j' p' h hp' hn
    · exact absurd (hs j' p' (by omega) (by omega) hp') hn
theorem Near.place (h : Near l ps key out m best far) : best = -1 ∨ ∃ (bi : Nat) (x : Member), best = (bi : Int) ∧ l[bi]? = some x := by
  rcases h with ⟨h1, _⟩ | ⟨bi, x, j, p, h1, h2, _⟩
  · exact .inl h1
  · exact .inr ⟨bi, x, h1, h2⟩
theorem Near.first {i : Nat} {x : Member} {p : Place} (h : Near l ps key out m (-1) far) (hx : l[i]? = some x) (hp : ps[m]? = some p) (hn : p.name = x.name) (ho : p.name ∉ out) : Near l ps key out (m + 1) (i : Int) (dst p.token key) := by
  rcases h with ⟨_, h2⟩ | ⟨bi, _, _, _, h1, _⟩
  · refine .inr ⟨i, x, m, p, rfl, hx, by omega, hp, hn, ho, rfl, fun j' p' hj' hp' hno => ?_⟩
    by_cases h : j' < m
    · exact absurd (h2 j' p' h hp') hno
    · obtain rfl : j' = m := by omega
      rw [hp] at hp'
      cases hp'
      exact ⟨Nat.le_refl _, fun _ => Nat.le_refl _⟩
  · omega
theorem Near.less {i bi : Nat} {x : Member} {p : Place} (h : Near l ps key out m (bi : Int) far) (hx : l[i]? = some x) (hp : ps[m]? = some p) (hn : p.name = x.name) (ho : p.name ∉ out) (hd : dst p.token key < far) : Near l ps key out (m + 1) (i : Int) (dst p.token key) := by
  rcases h with ⟨h1, _⟩ | ⟨bi', x', j, p0, h1, h2, h3, h4, h5, h6, h7, h8⟩
  · omega
  · refine .inr ⟨i, x, m, p, rfl, hx, by omega, hp, hn, ho, rfl, fun j' p' hj' hp' hno => ?_⟩
    by_cases h : j' < m
    · have := (h8 j' p' h hp' hno).1
      exact ⟨by omega, fun e => by omega⟩
    · obtain rfl : j' = m := by omega
      rw [hp] at hp'
      cases hp'
      exact ⟨Nat.le_refl _, fun _ => Nat.le_refl _⟩
theorem Near.keep {bi : Nat} {p : Place} (h : Near l ps key out m (bi : Int) far) (hp : ps[m]? = some p) (hd : ¬ dst p.token key < far) : Near l ps key out (m + 1) (bi : Int) far := by
  rcases h with ⟨h1, _⟩ | ⟨bi', x', j, p0, h1, h2, h3, h4, h5, h6, h7, h8⟩
  · omega
  · refine .inr ⟨bi', x', j, p0, h1, h2, by omega, h4, h5, h6, h7, fun j' p' hj' hp' hno => ?_⟩
    by_cases h : j' < m
    · exact h8 j' p' h hp' hno
    · obtain rfl : j' = m := by omega
      rw [hp] at hp'
      cases hp'
      exact ⟨by omega, fun _ => by omega⟩
end
/-- What the whole search says. -/
theorem near_end {l : List Member} {Z : List Tg} {key i k m : Nat} {out : List Bytes} {best : Int} {far : Nat} (hm : m = (places l).length) (hZ : Sorted (places l) Z) (hf : First (pl Z) key i) (hk : key < 18446744073709551616) (ht : ∀ p ∈ places l, p.token < 18446744073709551616)
    (hout : picks (k : Int) (turn (pl Z) i (pl Z).length) = out) (hlen : out.length = k) (h : Near l (places l) key out m best far) :
    (best = -1 ∧ ∀ n : Int, (k : Int) ≤ n → picks n (turn (pl Z) i (pl Z).length) = out) ∨ (∃ (bi : Nat) (x : Member), best = (bi : Int) ∧ l[bi]? = some x ∧ picks ((k + 1 : Nat) : Int) (turn (pl Z) i (pl Z).length) = out ++ [x.name]) := by
  have hmem : ∀ z : Tg, z ∈ Z ↔ (places l)[z.2]? = some z.1 := fun z => by
    rw [hZ.1.mem_iff, List.mem_zipIdx_iff_getElem?]
  have htz : ∀ z ∈ Z, z.1.token < 18446744073709551616 := fun z hz => ht _ (List.mem_of_getElem? ((hmem z).1 hz))
  have hi : i ≤ (pl Z).length := hf.1
  have hrot := turn_rot (pl Z) i hi
  have hpl : turn (pl Z) i (pl Z).length = pl (Z.drop i ++ Z.take i) := by rw [hrot]; simp [pl]
  have hnear := rot_near hZ.2 hk htz hf
  have hmemT : ∀ z : Tg, z ∈ Z.drop i ++ Z.take i ↔ z ∈ Z := fun z => by
    rw [List.mem_append]
    conv => rhs; rw [← List.take_append_drop i Z, List.mem_append]
    exact Or.comm
  rcases h with ⟨h1, h2⟩ | ⟨bi, x, j, p, h1, h2, h3, h4, h5, h6, h7, h8⟩
  · refine .inl ⟨h1, fun n hn => next_none hout hlen hn fun y hy => ?_⟩
    have hy' := (turn_mem _ _ _).1 hy
    obtain ⟨z, hz, rfl⟩ := List.mem_map.1 hy'
    have h3 := (hmem z).1 hz
    exact h2 _ _ (by rw [hm]; exact (List.getElem?_eq_some_iff.1 h3).1) h3
  · refine .inr ⟨bi, x, h1, h2, ?_⟩
    have hzT : (p, j) ∈ Z.drop i ++ Z.take i := (hmemT _).2 ((hmem (p, j)).2 h4)
    obtain ⟨pre, post, e⟩ := List.append_of_mem hzT
    rw [e] at hnear hpl
    rw [← h5]
    refine next_some hout hlen (pre := pl pre) (post := pl post) (z := p) (by rw [hpl]; simp [pl]) (fun y hy => ?_) h6
    obtain ⟨u, hu, rfl⟩ := List.mem_map.1 hy
    by_cases hn : u.1.name ∈ out
    · exact hn
    · exfalso
      have hr : RL key u (p, j) := (List.pairwise_append.1 hnear).2.2 u hu (p, j) (by simp)
      have huZ := (hmem u).1 ((hmemT u).1 (by rw [e]; simp [hu]))
      have h9 := h8 u.2 u.1 (by rw [hm]; exact (List.getElem?_eq_some_iff.1 huZ).1) huZ hn
      unfold RL at hr
      dsimp only at hr
      omega
theorem places_append (a b : List Member) : places (a ++ b) = places a ++ places b := by unfold places; rw [List.map_append, List.flatten_append]
/-- A member's own places among all. -/
theorem places_take_succ {l : List Member} {i : Nat} {x : Member} (hx : l[i]? = some x) : places (l.take (i + 1)) = places (l.take i) ++ placesOf x := by
  obtain ⟨h, rfl⟩ := List.getElem?_eq_some_iff.1 hx
  rw [List.take_succ_eq_append_getElem h, places_append]
  congr 1
  simp only [places, List.map_cons, List.map_nil, List.flatten_cons, List.flatten_nil, List.append_nil]
theorem places_at {l : List Member} {i : Nat} {x : Member} (hx : l[i]? = some x) (j : Nat) (hj : j < (placesOf x).length) : (places l)[(places (l.take i)).length + j]? = (placesOf x)[j]? := by
  have h1 : l = l.take (i + 1) ++ l.drop (i + 1) := (List.take_append_drop _ _).symm
  have h2 : places l = (places (l.take i) ++ placesOf x) ++ places (l.drop (i + 1)) := by
    conv => lhs; rw [h1]
    rw [← places_take_succ hx, places_append]
  rw [h2, List.getElem?_append_left (by simp; omega), List.getElem?_append_right (by omega)]
  congr 1
  omega
end Go.Proofs.Ytmojbpgabpbacaa
