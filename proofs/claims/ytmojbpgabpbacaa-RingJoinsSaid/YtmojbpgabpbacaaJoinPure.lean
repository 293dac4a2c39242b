/- What two rings know together: plain lists. The program's merge, and the choice by names of the reference, are one. -/
import Derived.Test.YtmojbpgabpbacaaOwnPure
import Derived.Test.YtmojbpgabpbacaaRefPen
namespace Go.Proofs.Ytmojbpgabpbacaa

/-! ### a member's bytes tell it -/
theorem ofNat_inj {n m : Nat} (hn : n < 256) (hm : m < 256) (h : UInt8.ofNat n = UInt8.ofNat m) : n = m := by
  have h1 := congrArg UInt8.toNat h
  rw [UInt8.toNat_ofNat', UInt8.toNat_ofNat', Nat.mod_eq_of_lt hn, Nat.mod_eq_of_lt hm] at h1
  exact h1
theorem eVar_inj : ∀ (n m : Nat) (s t : Bytes), eVar n ++ s = eVar m ++ t → n = m ∧ s = t := by
  intro n
  induction n using Nat.strongRecOn with
  | ind n ih =>
    intro m s t h
    by_cases hn : n ≤ 127
    · by_cases hm : m ≤ 127
      · rw [eVar_small hn, eVar_small hm] at h
        simp only [List.cons_append, List.nil_append, List.cons.injEq] at h
        exact ⟨ofNat_inj (by omega) (by omega) h.1, h.2⟩
      · rw [eVar_small hn, eVar_big hm] at h
        simp only [List.cons_append, List.nil_append, List.cons.injEq] at h
        have := ofNat_inj (by omega) (by omega) h.1
        omega
    · by_cases hm : m ≤ 127
      · rw [eVar_big hn, eVar_small hm] at h
        simp only [List.cons_append, List.nil_append, List.cons.injEq] at h
        have := ofNat_inj (by omega) (by omega) h.1
        omega
      · rw [eVar_big hn, eVar_big hm] at h
        simp only [List.cons_append, List.cons.injEq] at h
        have h1 := ofNat_inj (by omega) (by omega) h.1
        have h2 := ih (n / 128) (by omega) (m / 128) s t h.2
        exact ⟨by omega, h2.2⟩
theorem eFix_inj {n m : Nat} (hn : n < 18446744073709551616) (hm : m < 18446744073709551616) (h : eFix n = eFix m) : n = m := by
  have g : ∀ i, i < 8 → n / 2 ^ (56 - 8 * i) % 256 = m / 2 ^ (56 - 8 * i) % 256 := fun i hi => by
    rw [← fixAt_toNat, ← fixAt_toNat]
    have h1 : (eFix n)[i]? = (eFix m)[i]? := by rw [h]
    simp only [eFix, List.getElem?_map, List.getElem?_range hi, Option.map_some, Option.some.injEq] at h1
    rw [h1]
  have g0 := g 0 (by decide); have g1 := g 1 (by decide); have g2 := g 2 (by decide); have g3 := g 3 (by decide)
  have g4 := g 4 (by decide); have g5 := g 5 (by decide); have g6 := g 6 (by decide); have g7 := g 7 (by decide)
  simp only [Nat.reduceMul, Nat.reduceSub, Nat.reducePow, Nat.div_one] at g0 g1 g2 g3 g4 g5 g6 g7
  omega
theorem fixes_inj : ∀ (a b : List Nat), a.length = b.length → (∀ t ∈ a, t < 18446744073709551616) → (∀ t ∈ b, t < 18446744073709551616) → (a.map eFix).flatten = (b.map eFix).flatten → a = b := by
  intro a
  induction a with
  | nil => intro b hl _ _ _; exact (List.eq_nil_of_length_eq_zero hl.symm).symm
  | cons x r ih =>
    intro b hl ha hb h
    cases b with
    | nil => simp at hl
    | cons y s =>
      simp only [List.map_cons, List.flatten_cons] at h
      have h1 := List.append_inj h (by rw [eFix_len, eFix_len])
      rw [eFix_inj (ha x (by simp)) (hb y (by simp)) h1.1, ih s (by simpa using hl) (fun t ht => ha t (by simp [ht])) (fun t ht => hb t (by simp [ht])) h1.2]
theorem eRest_inj {x y : Member} (hx : memNums x) (hy : memNums y) (h : eRest x = eRest y) : x.state = y.state ∧ x.tokens = y.tokens := by
  unfold eRest at h
  simp only [List.cons_append, List.nil_append, List.cons.injEq] at h
  have h1 := eVar_inj _ _ _ _ h.2
  exact ⟨ofNat_inj hx.2.1 hy.2.1 h.1, fixes_inj _ _ h1.1 hx.2.2 hy.2.2 h1.2⟩

/-! ### which one counts -/
/-- The program's choice. -/
def cnt (x y : Member) : Member := if y.epoch < x.epoch ∨ x.epoch = y.epoch ∧ below (eRest y) (eRest x) = true then x else y
theorem cnt_or (x y : Member) : cnt x y = x ∨ cnt x y = y := by unfold cnt; split <;> simp
/-- The reference's. -/
theorem cnt_ref {x y : Member} (hx : memNums x) (hy : memNums y) (hn : x.name = y.name) : cnt x y = if x.epoch < y.epoch ∨ y.epoch = x.epoch ∧ below (eRest x) (eRest y) = true then y else x := by
  unfold cnt
  rcases Nat.lt_trichotomy x.epoch y.epoch with h | h | h
  · rw [if_neg (by omega), if_pos (by omega)]
  · rcases h1 : below (eRest y) (eRest x) with _ | _
    · rcases h2 : below (eRest x) (eRest y) with _ | _
      · obtain ⟨h3, h4⟩ := eRest_inj hx hy (below_total _ _ h2 h1)
        have : x = y := by
          obtain ⟨a, b, c, d⟩ := x
          obtain ⟨a', b', c', d'⟩ := y
          simp only at hn h h3 h4
          rw [hn, h, h3, h4]
        rw [this]
      · rw [if_neg (by simp; omega), if_pos (by simp [h])]
    · have h2 := below_asymm _ _ h1
      rw [if_pos (by simp [h]), if_neg (by simp [h2]; omega)]
  · rw [if_pos (by omega), if_neg (by omega)]

/-! ### the merge -/
def joinM : List Member → List Member → List Member
  | [], b => b
  | x :: a, [] => x :: a
  | x :: a, y :: b => if below x.name y.name = true then x :: joinM a (y :: b) else if below y.name x.name = true then y :: joinM (x :: a) b else cnt x y :: joinM a b
termination_by a b => a.length + b.length
theorem joinM_nil (a : List Member) : joinM a [] = a := by cases a <;> simp [joinM]
theorem joinM_nil' (b : List Member) : joinM [] b = b := by simp [joinM]
abbrev Rises (l : List Member) : Prop := l.Pairwise (fun x y => below x.name y.name = true)
def pickM (a b : List Member) (s : Bytes) : Option Member := match findMem a s, findMem b s with
  | some x, some y => some (cnt x y)
  | some x, none => some x
  | none, r => r
theorem findMem_none {l : List Member} {s : Bytes} (h : ∀ x ∈ l, x.name ≠ s) : findMem l s = none := by
  unfold findMem
  rw [List.find?_eq_none]
  intro x hx
  simpa using h x hx
theorem findMem_some {l : List Member} {s : Bytes} {x : Member} (h : findMem l s = some x) : x ∈ l ∧ x.name = s := by
  unfold findMem at h
  exact ⟨List.mem_of_find?_eq_some h, by simpa using List.find?_some h⟩
theorem findMem_cons {x : Member} {l : List Member} {s : Bytes} : findMem (x :: l) s = if x.name = s then some x else findMem l s := by
  unfold findMem
  rw [List.find?_cons]
  by_cases h : x.name = s
  · simp [h]
  · have : (x.name == s) = false := by simp [h]
    rw [this, if_neg h]
theorem below_ne {a b : Bytes} (h : below a b = true) : a ≠ b := by
  rintro rfl
  rw [below_irrefl] at h
  cases h
theorem cnt_name {x y : Member} (h : x.name = y.name) : (cnt x y).name = x.name := by
  rcases cnt_or x y with e | e <;> rw [e]
  exact h.symm
/-- Rising, of the names of both, and each chosen among those of its name. -/
theorem joinM_spec : ∀ (a b : List Member), Rises a → Rises b → Rises (joinM a b) ∧ (∀ z ∈ joinM a b, pickM a b z.name = some z) ∧ (∀ z, z ∈ a ∨ z ∈ b → ∃ u ∈ joinM a b, u.name = z.name) := by
  intro a
  induction a with
  | nil =>
    intro b _ hb
    rw [joinM_nil']
    refine ⟨hb, fun z hz => ?_, fun z hz => ⟨z, hz.resolve_left (by simp), rfl⟩⟩
    have : findMem [] z.name = none := rfl
    unfold pickM
    rw [this]
    exact findMem_of (hb.imp fun h => below_ne h) hz
  | cons x a iha =>
    intro b ha
    induction b with
    | nil =>
      intro _
      rw [joinM_nil]
      refine ⟨ha, fun z hz => ?_, fun z hz => ⟨z, hz.resolve_right (by simp), rfl⟩⟩
      have : findMem [] z.name = none := rfl
      unfold pickM
      rw [this, findMem_of (ha.imp fun h => below_ne h) hz]
    | cons y b ihb =>
      intro hb
      have ha1 := List.pairwise_cons.1 ha
      have hb1 := List.pairwise_cons.1 hb
      unfold joinM
      by_cases h1 : below x.name y.name = true
      · rw [if_pos h1]
        obtain ⟨i1, i2, i3⟩ := iha (y :: b) ha1.2 hb
        have hab : ∀ z ∈ joinM a (y :: b), below x.name z.name = true := fun z hz => by
          have := i2 z hz
          unfold pickM at this
          rcases hfa : findMem a z.name with _ | u
          · rcases hfb : findMem (y :: b) z.name with _ | v
            · rw [hfa, hfb] at this; cases this
            · obtain ⟨m1, m2⟩ := findMem_some hfb
              rw [← m2]
              rcases List.mem_cons.1 m1 with rfl | m1
              · exact h1
              · exact below_trans _ _ _ h1 (hb1.1 v m1)
          · obtain ⟨m1, m2⟩ := findMem_some hfa
            rw [← m2]
            exact ha1.1 u m1
        refine ⟨List.pairwise_cons.2 ⟨hab, i1⟩, fun z hz => ?_, fun z hz => ?_⟩
        · rcases List.mem_cons.1 hz with rfl | hz
          · unfold pickM
            rw [findMem_cons, if_pos rfl, findMem_none (l := y :: b) (fun v hv => by
              rcases List.mem_cons.1 hv with rfl | hv
              · exact fun e => below_ne h1 e.symm
              · exact fun e => below_ne (below_trans _ _ _ h1 (hb1.1 v hv)) e.symm)]
          · have h2 := i2 z hz
            unfold pickM at h2 ⊢
            rw [findMem_cons, if_neg (fun e => below_ne (hab z hz) e)]
            exact h2
        · rcases hz with hz | hz
          · rcases List.mem_cons.1 hz with rfl | hz
            · exact ⟨_, by simp, rfl⟩
            · obtain ⟨u, hu, e⟩ := i3 z (.inl hz)
              exact ⟨u, by simp [hu], e⟩
          · obtain ⟨u, hu, e⟩ := i3 z (.inr hz)
            exact ⟨u, by simp [hu], e⟩
      · rw [if_neg h1]
        by_cases h2 : below y.name x.name = true
        · rw [if_pos h2]
          obtain ⟨i1, i2, i3⟩ := ihb hb1.2
          have hab : ∀ z ∈ joinM (x :: a) b, below y.name z.name = true := fun z hz => by
            have := i2 z hz
            unfold pickM at this
            rcases hfa : findMem (x :: a) z.name with _ | u
            · rcases hfb : findMem b z.name with _ | v
              · rw [hfa, hfb] at this; cases this
              · obtain ⟨m1, m2⟩ := findMem_some hfb
                rw [← m2]
                exact hb1.1 v m1
            · obtain ⟨m1, m2⟩ := findMem_some hfa
              rw [← m2]
              rcases List.mem_cons.1 m1 with rfl | m1
              · exact h2
              · exact below_trans _ _ _ h2 (ha1.1 u m1)
          refine ⟨List.pairwise_cons.2 ⟨hab, i1⟩, fun z hz => ?_, fun z hz => ?_⟩
          · rcases List.mem_cons.1 hz with rfl | hz
            · unfold pickM
              rw [findMem_none (l := x :: a) (fun v hv => by
                rcases List.mem_cons.1 hv with rfl | hv
                · exact fun e => below_ne h2 e.symm
                · exact fun e => below_ne (below_trans _ _ _ h2 (ha1.1 v hv)) e.symm), findMem_cons, if_pos rfl]
            · have h3 := i2 z hz
              unfold pickM at h3 ⊢
              rw [findMem_cons (x := y), if_neg (fun e => below_ne (hab z hz) e)]
              exact h3
          · rcases hz with hz | hz
            · obtain ⟨u, hu, e⟩ := i3 z (.inl hz)
              exact ⟨u, by simp [hu], e⟩
            · rcases List.mem_cons.1 hz with rfl | hz
              · exact ⟨_, by simp, rfl⟩
              · obtain ⟨u, hu, e⟩ := i3 z (.inr hz)
                exact ⟨u, by simp [hu], e⟩
        · rw [if_neg h2]
          have hn : x.name = y.name := below_total _ _ (by simpa using h1) (by simpa using h2)
          obtain ⟨i1, i2, i3⟩ := iha b ha1.2 hb1.2
          have hab : ∀ z ∈ joinM a b, below x.name z.name = true := fun z hz => by
            have := i2 z hz
            unfold pickM at this
            rcases hfa : findMem a z.name with _ | u
            · rcases hfb : findMem b z.name with _ | v
              · rw [hfa, hfb] at this; cases this
              · obtain ⟨m1, m2⟩ := findMem_some hfb
                rw [← m2, hn]
                exact hb1.1 v m1
            · obtain ⟨m1, m2⟩ := findMem_some hfa
              rw [← m2]
              exact ha1.1 u m1
          have hcn := cnt_name hn
          refine ⟨List.pairwise_cons.2 ⟨fun z hz => by rw [hcn]; exact hab z hz, i1⟩, fun z hz => ?_, fun z hz => ?_⟩
          · rcases List.mem_cons.1 hz with rfl | hz
            · unfold pickM
              rw [findMem_cons, if_pos hcn.symm, findMem_cons, if_pos (by rw [hcn, hn])]
            · have h3 := i2 z hz
              unfold pickM at h3 ⊢
              rw [findMem_cons (x := x), if_neg (fun e => below_ne (hab z hz) e), findMem_cons (x := y), if_neg (fun e => below_ne (hab z hz) (hn.trans e))]
              exact h3
          · rcases hz with hz | hz
            · rcases List.mem_cons.1 hz with rfl | hz
              · exact ⟨_, List.mem_cons_self, hcn⟩
              · obtain ⟨u, hu, e⟩ := i3 z (.inl hz)
                exact ⟨u, List.mem_cons_of_mem _ hu, e⟩
            · rcases List.mem_cons.1 hz with rfl | hz
              · exact ⟨_, List.mem_cons_self, hcn.trans hn⟩
              · obtain ⟨u, hu, e⟩ := i3 z (.inr hz)
                exact ⟨u, List.mem_cons_of_mem _ hu, e⟩
theorem joinM_len (a b : List Member) : (joinM a b).length ≤ a.length + b.length := by
  induction a generalizing b with
  | nil => rw [joinM_nil']; omega
  | cons x a iha =>
    induction b with
    | nil => rw [joinM_nil]; simp
    | cons y b ihb =>
      unfold joinM
      have h1 := iha (y :: b)
      have h2 := iha b
      simp only [List.length_cons] at h1 h2 ihb ⊢
      split
      · simp only [List.length_cons]; omega
      · split <;> (simp only [List.length_cons]; omega)
theorem chk_rises {l : List Member} (h : chkRing l = 0) : Rises l := by
  unfold chkRing at h
  split at h
  · cases h
  · exact (names_rise l none h).1
/-- Both answers. -/
def joinAns (a b : List Member) : List Member × Int := if chkRing a ≠ 0 ∨ chkRing b ≠ 0 then ([], 1) else if 32 < (joinM a b).length then ([], 3) else (joinM a b, 0)
end Go.Proofs.Ytmojbpgabpbacaa
