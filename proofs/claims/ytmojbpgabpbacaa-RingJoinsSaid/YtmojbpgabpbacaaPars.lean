/- Readers of bytes: what they answer, how they follow one another, and what 'reads just what is written' means. Plain Lean, no Go and no memory. -/
import Derived.Test.YtmojbpgabpbacaaSpec
namespace Go.Proofs.Ytmojbpgabpbacaa

/-- A reader: an error's number, or a value and what is left. -/
abbrev Pr (α : Type) := Bytes → Except Int (α × Bytes)
def pPure {α : Type} (x : α) : Pr α := fun r => .ok (x, r)
def pErr {α : Type} (k : Int) : Pr α := fun _ => .error k
def pBind {α β : Type} (p : Pr α) (q : α → Pr β) : Pr β := fun r => match p r with
  | .ok (x, r1) => q x r1
  | .error k => .error k
/-- An error if something holds. -/
def pFail (c : Bool) (k : Int) : Pr Unit := fun r => if c = true then .error k else .ok ((), r)
/-- n elements, each read behind those that are there. -/
def pMany {α : Type} (item : List α → Pr α) : Nat → List α → Pr (List α)
  | 0, acc => pPure acc
  | n + 1, acc => pBind (item acc) fun x => pMany item n (acc ++ [x])

theorem pBind_ok {α β : Type} {p : Pr α} {q : α → Pr β} {r r1 : Bytes} {x : α} (h : p r = .ok (x, r1)) : pBind p q r = q x r1 := by simp [pBind, h]
theorem pBind_err {α β : Type} {p : Pr α} {q : α → Pr β} {r : Bytes} {k : Int} (h : p r = .error k) : pBind p q r = .error k := by simp [pBind, h]
theorem pBind_inv {α β : Type} {p : Pr α} {q : α → Pr β} {r r2 : Bytes} {y : β} (h : pBind p q r = .ok (y, r2)) : ∃ x r1, p r = .ok (x, r1) ∧ q x r1 = .ok (y, r2) := by
  unfold pBind at h
  cases hp : p r with
  | ok z => rw [hp] at h; exact ⟨z.1, z.2, rfl, h⟩
  | error z => rw [hp] at h; cases h
theorem pFail_inv {c : Bool} {k : Int} {r r1 : Bytes} {u : Unit} (h : pFail c k r = .ok (u, r1)) : c = false ∧ r1 = r := by
  unfold pFail at h
  cases c
  · simp at h; exact ⟨rfl, h.symm⟩
  · simp at h
theorem pPure_inv {α : Type} {x y : α} {r r1 : Bytes} (h : pPure x r = .ok (y, r1)) : x = y ∧ r = r1 := by
  injection h with h; injection h with h1 h2; exact ⟨h1, h2⟩

/-- What a call on a cursor did: an elder error stays; else the reader's answer. -/
def Out {α : Type} (p : Pr α) (r : Bytes) (e : Int) (x : α) (r' : Bytes) (e' : Int) : Prop :=
  (e ≠ 0 → e' = e) ∧ (e = 0 → match p r with
    | .ok (y, q) => e' = 0 ∧ x = y ∧ r' = q
    | .error k => e' = k ∧ k ≠ 0)
section
variable {α β : Type} {p : Pr α} {q : α → Pr β} {r r1 r2 : Bytes} {e e1 e2 k : Int} {x : α} {y : β}
theorem Out.elder (he : e ≠ 0) : Out p r e x r1 e := ⟨fun _ => rfl, fun h => absurd h he⟩
theorem Out.of_ok (he : e = 0) (h : p r = .ok (x, r1)) : Out p r e x r1 0 := by
  subst he
  exact ⟨fun h => absurd rfl h, fun _ => by rw [h]; exact ⟨rfl, rfl, rfl⟩⟩
theorem Out.of_err (he : e = 0) (h : p r = .error k) (hk : k ≠ 0) : Out p r e x r1 k := by
  subst he
  exact ⟨fun h => absurd rfl h, fun _ => by rw [h]; exact ⟨rfl, hk⟩⟩
theorem Out.pure (x : α) : Out (pPure x) r e x r e := ⟨fun _ => rfl, fun h => ⟨h, rfl, rfl⟩⟩
theorem Out.bind (h : Out p r e x r1 e1) (k : Out (q x) r1 e1 y r2 e2) : Out (pBind p q) r e y r2 e2 := by
  refine ⟨fun he => ?_, fun he => ?_⟩
  · have h1 := h.1 he
    rw [k.1 (by rw [h1]; exact he), h1]
  · have h1 := h.2 he
    unfold pBind
    cases hp : p r with
    | ok z =>
      rw [hp] at h1
      obtain ⟨h2, h3, h4⟩ := h1
      subst h3 h4
      exact k.2 h2
    | error z =>
      rw [hp] at h1
      obtain ⟨h2, h3⟩ := h1
      exact ⟨(k.1 (by rw [h2]; exact h3)).trans h2, h3⟩
theorem Out.fail (c : Bool) (hk : k ≠ 0) : Out (pFail c k) r e () r (if c = true ∧ e = 0 then k else e) := by
  refine ⟨fun he => by simp [he], fun he => ?_⟩
  subst he
  cases c
  · simp [pFail]
  · simp [pFail, hk]
theorem Out.failT {c : Bool} (hc : c = true) (hk : k ≠ 0) : Out (pFail c k) r e () r (if e = 0 then k else e) := by
  have := Out.fail (r := r) (e := e) c hk
  simpa [hc] using this
theorem Out.failF {c : Bool} (hc : c = false) : Out (pFail c k) r e () r e := by
  subst hc
  exact ⟨fun _ => rfl, fun he => by simp [pFail, he]⟩
/-- The error behind Fail(k). -/
def Fails (e k e1 : Int) : Prop := e1 = if e = 0 then k else e
theorem Fails.out {c : Bool} (h : Fails e k e1) (hc : c = true) (hk : k ≠ 0) : Out (pFail c k) r e () r e1 := by
  unfold Fails at h
  subst h
  exact Out.failT hc hk
theorem Fails.ne (h : Fails e k e1) (hk : k ≠ 0) : e1 ≠ 0 := by
  unfold Fails at h
  subst h
  by_cases he : e = 0 <;> simp [he, hk]
theorem Out.zero (h : Out p r e x r1 e1) (h1 : e1 = 0) : e = 0 := by
  rcases Decidable.em (e = 0) with he | he
  · exact he
  · exact (h.1 he).symm.trans h1
/-- No error: the reader has answered. -/
theorem Out.ok (h : Out p r e x r1 e1) (h1 : e1 = 0) : e = 0 ∧ p r = .ok (x, r1) := by
  have he := h.zero h1
  refine ⟨he, ?_⟩
  have h2 := h.2 he
  cases hp : p r with
  | ok z =>
    rw [hp] at h2
    obtain ⟨_, rfl, rfl⟩ := h2
    rfl
  | error z =>
    rw [hp] at h2
    exact absurd (h2.1.symm.trans h1) h2.2
theorem Out.err (h : Out p r 0 x r1 e1) (h1 : e1 ≠ 0) : p r = .error e1 := by
  have h2 := h.2 rfl
  cases hp : p r with
  | ok z =>
    rw [hp] at h2
    exact absurd h2.1 h1
  | error z =>
    rw [hp] at h2
    rw [h2.1]
theorem Out.map {f : α → β} (h : Out p r e x r1 e1) : Out (pBind p (fun z => pPure (f z))) r e (f x) r1 e1 := h.bind (Out.pure _)
/-- With an error the value doesn't matter. -/
theorem Out.any {z : α} {r3 : Bytes} (h : Out p r e x r1 e1) (h1 : e1 ≠ 0) : Out p r e z r3 e1 := by
  refine ⟨h.1, fun he => ?_⟩
  have h2 := h.2 he
  cases hp : p r with
  | ok w =>
    rw [hp] at h2
    exact absurd h2.1 h1
  | error w =>
    rw [hp] at h2
    exact h2
theorem Out.congr {p' : Pr α} (h : Out p r e x r1 e1) (hp : p r = p' r) : Out p' r e x r1 e1 := by
  unfold Out at h ⊢
  rw [← hp]
  exact h
end

/-- Within a loop that reads: with an error the whole has it; else q is still to be read. -/
def Going {α : Type} (p q : Pr α) (r0 : Bytes) (e0 : Int) (r : Bytes) (e : Int) : Prop :=
  (e ≠ 0 → ∀ x r', Out p r0 e0 x r' e) ∧ (e = 0 → e0 = 0 ∧ p r0 = q r)
section
variable {α β : Type} {p : Pr β} {q q' : Pr α} {f : β → Pr α} {r0 r r' : Bytes} {e0 e e' : Int} {x : β} {y : α}
theorem Going.start (h : Out p r0 e0 x r e) : Going (pBind p f) (f x) r0 e0 r e :=
  ⟨fun he x' r' => h.bind (y := x') (r2 := r') ⟨fun _ => rfl, fun h => absurd h he⟩, fun he => ⟨(h.ok he).1, pBind_ok (h.ok he).2⟩⟩
theorem Going.step (h : Going q (pBind p f) r0 e0 r e) (he : e = 0) (ho : Out p r e x r' e') : Going q (f x) r0 e0 r' e' := by
  obtain ⟨h0, h1⟩ := h.2 he
  subst he
  refine ⟨fun he' z r'' => Out.of_err h0 ?_ he', fun he' => ⟨h0, ?_⟩⟩
  · rw [h1]
    exact pBind_err (ho.err he')
  · rw [h1]
    exact pBind_ok (ho.ok he').2
theorem Going.many {item : List β → Pr β} {k : Nat} {acc : List β} {q : Pr (List β)} (h : Going q (pMany item (k + 1) acc) r0 e0 r e) (he : e = 0) (ho : Out (item acc) r e x r' e') : Going q (pMany item k (acc ++ [x])) r0 e0 r' e' := Going.step (f := fun x => pMany item k (acc ++ [x])) h he ho
theorem Going.done (h : Going q (pPure y) r0 e0 r e) (he : e = 0) : Out q r0 e0 y r e := by
  obtain ⟨h0, h1⟩ := h.2 he
  subst he
  exact Out.of_ok h0 h1
theorem Going.out (h : Going q q' r0 e0 r e) (ho : Out q' r e y r' e') : Out q r0 e0 y r' e' := by
  by_cases he : e = 0
  · obtain ⟨h0, h1⟩ := h.2 he
    subst he h0
    exact ⟨fun h => absurd rfl h, fun _ => by rw [h1]; exact ho.2 rfl⟩
  · rw [ho.1 he]
    exact h.1 he _ _
end

/-! ### what is written is read -/
/-- The reader reads x from just t: with whatever behind it; of each proper beginning it says that it is too short. -/
def Codes {α : Type} (p : Pr α) (x : α) (t : Bytes) : Prop := (∀ r, p (t ++ r) = .ok (x, r)) ∧ ∀ u v, t = u ++ v → v ≠ [] → p u = .error 2
section
variable {α β : Type} {p : Pr α} {q : α → Pr β} {x : α} {y : β} {t t' : Bytes} {k : Int} {c : Bool}
theorem Codes.pure (x : α) : Codes (pPure x) x [] := ⟨fun r => rfl, fun u v h hv => by
  rcases List.append_eq_nil_iff.1 h.symm with ⟨_, h2⟩
  exact absurd h2 hv⟩
theorem Codes.bind (h : Codes p x t) (k : Codes (q x) y t') : Codes (pBind p q) y (t ++ t') := by
  refine ⟨fun r => ?_, fun u v huv hv => ?_⟩
  · rw [List.append_assoc, pBind_ok (h.1 _), k.1]
  · rcases List.append_eq_append_iff.1 huv with ⟨s, h1, h2⟩ | ⟨s, h1, h2⟩
    · subst h1
      rw [pBind_ok (h.1 _)]
      exact k.2 s v h2 hv
    · cases s with
      | nil =>
        simp only [List.append_nil] at h1
        subst h1
        have := h.1 []
        rw [List.append_nil] at this
        rw [pBind_ok this]
        exact k.2 [] v (by simpa using h2.symm) hv
      | cons z s => exact pBind_err (h.2 u (z :: s) h1 (by simp))
theorem Codes.fail (hc : c = false) : Codes (pFail c k) () [] := by
  subst hc
  exact Codes.pure ()
theorem Codes.failBind {q' : Unit → Pr β} (hc : c = false) (h : Codes (q' ()) y t) : Codes (pBind (pFail c k) q') y t := by
  have := (Codes.fail (k := k) hc).bind h
  simpa using this
theorem Codes.map {f : α → β} (h : Codes p x t) : Codes (pBind p (fun z => pPure (f z))) (f x) t := by
  have := Codes.bind (q := fun z => pPure (f z)) h (Codes.pure (f x))
  simpa using this
theorem Codes.many {item : List α → Pr α} {enc : α → Bytes} (xs : List α) : ∀ acc, (∀ j, (hj : j < xs.length) → Codes (item (acc ++ xs.take j)) xs[j] (enc xs[j])) → Codes (pMany item xs.length acc) (acc ++ xs) (xs.flatMap enc) := by
  induction xs with
  | nil => intro acc _; simpa [pMany] using Codes.pure acc
  | cons a xs ih =>
    intro acc h
    have h0 := h 0 (by simp)
    simp only [List.take_zero, List.append_nil, List.getElem_cons_zero] at h0
    have h1 := ih (acc ++ [a]) (fun j hj => by
      have := h (j + 1) (by simpa using hj)
      simpa using this)
    have := Codes.bind (q := fun x => pMany item xs.length (acc ++ [x])) h0 h1
    simpa [pMany] using this
end
theorem pMany_inv {α : Type} {item : List α → Pr α} (P : List α → Prop) (enc : α → Bytes)
    (hi : ∀ acc x r r1, P acc → item acc r = .ok (x, r1) → r = enc x ++ r1 ∧ P (acc ++ [x])) : ∀ n acc ys r r1, P acc → pMany item n acc r = .ok (ys, r1) → ∃ xs, ys = acc ++ xs ∧ xs.length = n ∧ r = xs.flatMap enc ++ r1 ∧ P ys := by
  intro n
  induction n with
  | zero =>
    intro acc ys r r1 hP h
    obtain ⟨rfl, rfl⟩ := pPure_inv h
    exact ⟨[], by simp, rfl, by simp, hP⟩
  | succ n ih =>
    intro acc ys r r1 hP h
    obtain ⟨x, r2, h1, h2⟩ := pBind_inv h
    obtain ⟨h3, h4⟩ := hi acc x r r2 hP h1
    obtain ⟨xs, h5, h6, h7, h8⟩ := ih _ _ _ _ h4 h2
    exact ⟨x :: xs, by simp [h5], by simp [h6], by rw [h3, h7]; simp, h8⟩

/-- The value of a whole text. -/
def pWhole {α : Type} (p : Pr α) (s : Bytes) : Except Int α := match p s with
  | .ok (x, []) => .ok x
  | .ok (_, _ :: _) => .error 8
  | .error k => .error k
theorem pWhole_ok {α : Type} {p : Pr α} {x : α} {t : Bytes} (h : Codes p x t) : pWhole p t = .ok x := by
  have := h.1 []
  rw [List.append_nil] at this
  simp [pWhole, this]
theorem pWhole_short {α : Type} {p : Pr α} {x : α} {u v : Bytes} (h : Codes p x (u ++ v)) (hv : v ≠ []) : pWhole p u = .error 2 := by
  simp [pWhole, h.2 u v rfl hv]
theorem pWhole_long {α : Type} {p : Pr α} {x : α} {t v : Bytes} (h : Codes p x t) (hv : v ≠ []) : pWhole p (t ++ v) = .error 8 := by
  cases v with
  | nil => exact absurd rfl hv
  | cons a v => simp [pWhole, h.1]
theorem pWhole_inv {α : Type} {p : Pr α} {x : α} {s : Bytes} (h : pWhole p s = .ok x) : p s = .ok (x, []) := by
  unfold pWhole at h
  split at h
  · rename_i y hy
    injection h with h
    rw [hy, h]
  · cases h
  · cases h

/-! ### the smallest readers -/
def pBytes (n : Nat) : Pr Bytes := fun r => if r.length < n then .error 2 else .ok (r.take n, r.drop n)
def pByte : Pr Nat := pBind (pBytes 1) fun s => pPure ((s.headD 0).toNat)

/-! ### numbers in as few bytes as they need -/
/-- Behind i bytes that came to acc. -/
def pVarAt : Nat → Nat → Pr Nat
  | _, _, [] => .error 2
  | i, acc, b :: r => if i = 9 ∧ 1 < b.toNat then .error 5 else if b.toNat = 0 ∧ 0 < i then .error 4
    else if b.toNat < 128 then .ok (acc + b.toNat % 128 * 128 ^ i, r) else pVarAt (i + 1) (acc + b.toNat % 128 * 128 ^ i) r
def pVar : Pr Nat := pVarAt 0 0
/-- A number that isn't above a limit. -/
def pUpTo (m : Nat) : Pr Nat := pBind pVar fun n => pBind (pFail (decide (m < n)) 3) fun _ => pPure n
def pBlob (m : Nat) : Pr Bytes := pBind (pUpTo m) pBytes
def pFlag : Pr Bool := pBind pByte fun b => pBind (pFail (decide (1 < b)) 13) fun _ => pPure (b == 1)

/-! ### records -/
def pEnt (acc : List Entry) : Pr Entry := pBind (pBlob 32) fun a => pBind (pFail a.isEmpty 14) fun _ => pBind (pFail (!above (acc.getLast?.map Entry.actor) a) 6) fun _ =>
  pBind pVar fun k => pBind (pFail (k == 0) 7) fun _ => pPure ⟨a, k⟩
def pVec : Pr (List Entry) := pBind (pUpTo 64) fun n => pMany pEnt n []
end Go.Proofs.Ytmojbpgabpbacaa
