/- The document's data and answers in plain Lean: texts as lists of bytes, records as structures, what is right, its bytes, and how it is read. No Go and no memory. -/
import Derived.WalkKit
namespace Go.Proofs.Ytmojbpgabpbacaa

abbrev Bytes := List UInt8
structure Entry where
  actor : Bytes
  count : Nat
structure Clock where
  ctx : List Entry
  dotted : Bool
  dot : Entry
structure NV where
  name : Bytes
  value : Bytes
structure Sib where
  clock : Clock
  nvs : List NV
  dead : Bool
  value : Bytes
structure Obj where
  key : Bytes
  sibs : List Sib
structure OldSib where
  clock : List Entry
  dead : Bool
  value : Bytes
structure Old where
  key : Bytes
  sibs : List OldSib
structure Slot where
  index : Nat
  hash : Bytes
structure Itm where
  key : Bytes
  hash : Bytes
structure Page where
  pfx : Bytes
  leaf : Bool
  slots : List Slot
  items : List Itm
structure Member where
  name : Bytes
  epoch : Nat
  state : Nat
  tokens : List Nat
structure Msg where
  kind : Nat
  id : Nat
  key : Bytes
  found : Bool
  object : Obj
  old : Old
  ctx : List Entry
  nvs : List NV
  dead : Bool
  value : Bytes
  pfx : Bytes
  page : Page
  ring : List Member
  code : Int
  text : Bytes
structure Span where
  name : Bytes
  lo : Int
  hi : Int
structure Frame where
  version : Nat
  kind : Nat
  payload : Bytes

/-! ### the first error of a list -/
section
variable {α : Type}
def firstErr (f : Option α → α → Int) : Option α → List α → Int
  | _, [] => 0
  | p, x :: r => if f p x = 0 then firstErr f (some x) r else f p x
def prevAt (xs : List α) (k : Nat) : Option α := if k = 0 then none else xs[k - 1]?
/-- What is left to look at from place k on decides. -/
def Pending (f : Option α → α → Int) (xs : List α) (k : Nat) : Prop := firstErr f none xs = firstErr f (prevAt xs k) (xs.drop k)
variable {f : Option α → α → Int} {xs : List α} {k : Nat}
theorem Pending.start : Pending f xs 0 := rfl
theorem prevAt_succ (hk : k < xs.length) : prevAt xs (k + 1) = some xs[k] := by simp [prevAt, hk]
theorem prevAt_pos (h0 : 0 < k) (hk : k < xs.length) : prevAt xs k = some (xs[k - 1]'(by omega)) := by simp [prevAt, Nat.ne_of_gt h0, show k - 1 < xs.length by omega]
theorem prevAt_zero (h0 : ¬ 0 < k) : prevAt xs k = none := by simp [prevAt, show k = 0 by omega]
theorem Pending.next (h : Pending f xs k) (hk : k < xs.length) (h0 : f (prevAt xs k) xs[k] = 0) : Pending f xs (k + 1) := by
  unfold Pending at h ⊢
  rw [h, List.drop_eq_getElem_cons hk, prevAt_succ hk, firstErr, if_pos h0]
theorem Pending.stop (h : Pending f xs k) (hk : k < xs.length) {e : Int} (h0 : f (prevAt xs k) xs[k] = e) (he : e ≠ 0) : firstErr f none xs = e := by
  unfold Pending at h
  rw [h, List.drop_eq_getElem_cons hk, firstErr, if_neg (by rw [h0]; exact he), h0]
theorem Pending.at_ (h : Pending f xs k) (hk : k < xs.length) (h0 : f (prevAt xs k) xs[k] ≠ 0) : firstErr f none xs = f (prevAt xs k) xs[k] := h.stop hk rfl h0
theorem Pending.ends (h : Pending f xs k) (hk : xs.length ≤ k) : firstErr f none xs = 0 := by
  unfold Pending at h
  rw [h, List.drop_of_length_le hk, firstErr]
end

/-- A text is below another one. -/
abbrev below (a b : Bytes) : Bool := Op.bytesLess a b

theorem below_irrefl (a : Bytes) : below a a = false := by
  induction a with
  | nil => rfl
  | cons x a ih => simp [below, Op.bytesLess] at ih ⊢; exact ih
theorem below_asymm : ∀ a b : Bytes, below a b = true → below b a = false := by
  intro a
  induction a with
  | nil => intro b h; cases b <;> simp_all [below, Op.bytesLess]
  | cons x a ih =>
    intro b h
    cases b with
    | nil => simp [below, Op.bytesLess] at h
    | cons y b =>
      simp only [below, Op.bytesLess, Bool.or_eq_true, Bool.and_eq_true, decide_eq_true_eq, beq_iff_eq, Bool.or_eq_false_iff, Bool.and_eq_false_iff, decide_eq_false_iff_not] at h ⊢
      rcases h with h | ⟨rfl, h⟩
      · refine ⟨fun h' => ?_, .inl ?_⟩
        · rw [UInt8.lt_iff_toNat_lt] at h h'
          omega
        · rw [UInt8.lt_iff_toNat_lt] at h
          simp only [beq_eq_false_iff_ne, ne_eq]
          rintro rfl
          omega
      · exact ⟨by rw [UInt8.lt_iff_toNat_lt]; omega, .inr (ih b h)⟩
theorem below_total : ∀ a b : Bytes, below a b = false → below b a = false → a = b := by
  intro a
  induction a with
  | nil => intro b h h'; cases b <;> simp_all [below, Op.bytesLess]
  | cons x a ih =>
    intro b h h'
    cases b with
    | nil => simp [below, Op.bytesLess] at h'
    | cons y b =>
      simp only [below, Op.bytesLess, Bool.or_eq_false_iff, Bool.and_eq_false_iff, decide_eq_false_iff_not] at h h'
      have hxy : x = y := by
        have h1 := h.1
        have h2 := h'.1
        rw [UInt8.lt_iff_toNat_lt] at h1 h2
        exact UInt8.toNat_inj.1 (by omega)
      subst hxy
      rw [ih b (by simpa using h.2) (by simpa using h'.2)]
theorem below_trans : ∀ a b c : Bytes, below a b = true → below b c = true → below a c = true := by
  intro a
  induction a with
  | nil => intro b c h h'; cases b <;> cases c <;> simp_all [below, Op.bytesLess]
  | cons x a ih =>
    intro b c h h'
    cases b with
    | nil => simp [below, Op.bytesLess] at h
    | cons y b =>
      cases c with
      | nil => simp [below, Op.bytesLess] at h'
      | cons z c =>
        simp only [below, Op.bytesLess, Bool.or_eq_true, Bool.and_eq_true, decide_eq_true_eq, beq_iff_eq] at h h' ⊢
        rcases h with h | ⟨rfl, h⟩
        · rcases h' with h' | ⟨rfl, h'⟩
          · rw [UInt8.lt_iff_toNat_lt] at h h' ⊢
            exact .inl (by omega)
          · exact .inl h
        · rcases h' with h' | ⟨rfl, h'⟩
          · exact .inl h'
          · exact .inr ⟨rfl, ih b c h h'⟩
/-- Go's 'x <= p' on texts. -/
theorem leq_below (x p : Bytes) : (Op.bytesLess x p || x == p) = !below p x := by
  rcases h : below p x with _ | _
  · rcases h1 : Op.bytesLess x p with _ | _
    · simp [below_total x p h1 h]
    · rfl
  · have h1 := below_asymm p x h
    have h2 : (x == p) = false := by
      simp only [beq_eq_false_iff_ne, ne_eq]
      rintro rfl
      rw [below_irrefl] at h
      cases h
    simp [below] at h1
    simp [h1, h2]

/-- An order among what is ahead and what comes. -/
def above (p : Option Bytes) (a : Bytes) : Bool := match p with
  | none => true
  | some q => below q a
def rises {α : Type} (key : α → Bytes) (p : Option α) (x : α) : Bool := above (p.map key) (key x)

theorem rises_none {α : Type} (key : α → Bytes) (x : α) : rises key none x = true := rfl
theorem rises_some {α : Type} (key : α → Bytes) (p x : α) : rises key (some p) x = below (key p) (key x) := rfl

theorem last_pos {α : Type} {xs : List α} (h : 0 < xs.length) : xs.getLast? = some (xs[xs.length - 1]'(by omega)) := by
  rw [List.getLast?_eq_getElem?, List.getElem?_eq_getElem (by omega)]
theorem last_zero {α : Type} {xs : List α} (h : ¬ 0 < xs.length) : xs.getLast? = none := by
  have : xs = [] := List.eq_nil_of_length_eq_zero (by omega)
  subst this
  rfl

/-- The tests as the walk spells them. -/
def entErr (p : Option Entry) (x : Entry) : Int :=
  if (32 : Int) < x.actor.length then 3 else if x.actor.isEmpty = true then 14 else if rises Entry.actor p x = false then 6 else if x.count = 0 then 7 else 0
def chkVec (v : List Entry) : Int := if 64 < v.length then 3 else firstErr entErr none v
def countOf (v : List Entry) (actor : Bytes) : Nat := match v with
  | [] => 0
  | x :: r => if x.actor = actor then x.count else countOf r actor
def chkClock (k : Clock) : Int :=
  if chkVec k.ctx ≠ 0 then chkVec k.ctx
  else if k.dotted = false then (if k.dot.actor.isEmpty ∧ k.dot.count = 0 then 0 else 1)
  else if (32 : Int) < k.dot.actor.length then 3 else if k.dot.actor.isEmpty = true then 14 else if k.dot.count = 0 then 7
  else if k.dot.count ≤ countOf k.ctx k.dot.actor then 15 else 0
def nvErr (p : Option NV) (x : NV) : Int :=
  if (32 : Int) < x.name.length then 3 else if x.name.isEmpty = true then 14 else if rises NV.name p x = false then 6 else if (32768 : Int) < x.value.length then 3 else 0
def chkNVs (l : List NV) : Int := if 8 < l.length then 3 else firstErr nvErr none l
def chkSib (x : Sib) : Int :=
  if chkClock x.clock ≠ 0 then chkClock x.clock else if chkNVs x.nvs ≠ 0 then chkNVs x.nvs else if (32768 : Int) < x.value.length then 3 else 0
def risingN : List Nat → Bool
  | a :: b :: r => decide (a < b) && risingN (b :: r)
  | _ => true
def memErr (p : Option Member) (x : Member) : Int :=
  if (32 : Int) < x.name.length then 3 else if x.name.isEmpty = true then 14 else if rises Member.name p x = false then 6 else if x.epoch = 0 then 7
  else if (3 : Int) < x.state then 13 else if (16 : Int) < x.tokens.length then 3 else if risingN x.tokens = false then 6 else 0
def chkRing (l : List Member) : Int := if 32 < l.length then 3 else firstErr memErr none l
end Go.Proofs.Ytmojbpgabpbacaa
