/- Words on worlds and on data in memory, for the contracts of this seat: what a call may change, a block known whole, kinds of data, rows that the call owns. No program in sight. -/
import Derived.WalkKit
import Derived.KernelRfl
import Derived.WalkLawsBesides
import Derived.Deep.QuietTactic
import Derived.BigQuiet
import Derived.Deep.LoopGhost
import Derived.Maps.AppendAt
import Derived.Deep.AppendLies
namespace Go.Proofs.Ytmojbpgabpbacaa
open Go.RowKit

theorem hide {p : Prop} (h : p) : Hid p := h
/-- The call's post behind a name: the walk ends at 'K (.returned _) _'; then 'hK.out _ _ ..'. -/
theorem calls_hide {P : Program} {f : FuncId} {args : Array Value} {w : World} {R : Ending → World → Prop} (h : ∀ K : Ending → World → Prop, Hid (∀ e w', R e w' → K e w') → Calls P f args w K) : Calls P f args w R := h R (hide fun _ _ h => h)
/-- A call that returns one value. -/
theorem calls_ret {P : Program} {f : FuncId} {args : Array Value} {w : World} {α : Type} {enc : α → Value} {c : α} {R : World → Prop} (h : ∀ K : Ending → World → Prop, Hid (∀ n w', c = n → R w' → K (.returned (enc n)) w') → Calls P f args w K) :
    Calls P f args w fun r w' => r = .returned (enc c) ∧ R w' := h _ (hide fun _ _ h1 h2 => ⟨by rw [h1], h2⟩)
theorem t_of_not {b : Bool} (h : (!b) = true) : b = false := by simpa using h
theorem n_of_not {b : Bool} (h : (!b) = false) : ¬ b = false := by simpa using h
theorem z_of {n : Nat} (h : ((n : Int) == 0) = true) : n = 0 := by simpa using h
theorem nz_of {n : Nat} (h : ((n : Int) == 0) = false) : ¬ n = 0 := by simpa using h
theorem n_true {b : Bool} (h : b = false) : ¬ b = true := by simp [h]

/-! ### what may have changed -/
/-- Of the blocks that were there, only those of S may have changed. -/
structure Ch (S : List Nat) (w w' : World) : Prop where
  os : w'.os = w.os
  tape : w'.tape = w.tape
  output : w'.output = w.output
  size : w.heap.size ≤ w'.heap.size
  block : ∀ k, k < w.heap.size → k ∉ S → w'.heap[k]? = w.heap[k]?
theorem Ch.refl (S : List Nat) (w : World) : Ch S w w := ⟨rfl, rfl, rfl, Nat.le_refl _, fun _ _ _ => rfl⟩
theorem Ch.trans {S T : List Nat} {a b c : World} (h : Ch S a b) (k : Ch T b c) (hT : ∀ t ∈ T, t ∈ S ∨ a.heap.size ≤ t) : Ch S a c :=
  ⟨k.os.trans h.os, k.tape.trans h.tape, k.output.trans h.output, Nat.le_trans h.size k.size, fun i hi hs =>
    (k.block i (Nat.lt_of_lt_of_le hi h.size) (fun ht => by rcases hT i ht with h1 | h1; exact hs h1; omega)).trans (h.block i hi hs)⟩
theorem Ch.trans' {S : List Nat} {a b c : World} (h : Ch S a b) (k : Ch S b c) : Ch S a c := h.trans k (fun _ ht => .inl ht)
theorem Ch.trans0 {S : List Nat} {a b c : World} (h : Ch S a b) (k : Ch [] b c) : Ch S a c := h.trans k (fun _ ht => by cases ht)
theorem Ch.mono {S T : List Nat} {a b : World} (h : Ch S a b) (hT : ∀ t ∈ S, t ∈ T ∨ a.heap.size ≤ t) : Ch T a b := (Ch.refl T a).trans h hT
theorem Ch.drewN {S : List Nat} {a w : World} (h : Ch S a w) (n : Nat) : Ch S a (w.drewN n) := ⟨h.os, h.tape, h.output, h.size, h.block⟩
theorem Ch.drew {S : List Nat} {a w : World} (h : Ch S a w) : Ch S a w.drew := ⟨h.os, h.tape, h.output, h.size, h.block⟩
theorem Ch.alloc {S : List Nat} {a w : World} (h : Ch S a w) (o : Obj) : Ch S a (w.alloc o) :=
  h.trans0 ⟨rfl, rfl, rfl, by simp, fun k hk _ => Below.heap_alloc _ _ _ hk⟩
theorem Ch.setCell {S : List Nat} {a w : World} (h : Ch S a w) {p : Addr} (hp : p.block ∈ S ∨ a.heap.size ≤ p.block) (u : Value) : Ch S a (w.setCell p u) :=
  h.trans (T := [p.block]) ⟨rfl, rfl, rfl, by simp [World.setCell], fun k _ hn => Below.heap_setCell _ _ _ _ (by simpa using hn)⟩ (fun t ht => by
    rcases List.mem_singleton.1 ht with rfl
    exact hp)
theorem Ch.grown {S : List Nat} {a w w' : World} {row : Option Nat} (h : Ch S a w) (hg : w.grownBy w' row) (hr : ∀ k, row = some k → k ∈ S ∨ a.heap.size ≤ k) : Ch S a w' :=
  h.trans (T := row.toList) ⟨hg.os, hg.tape, hg.output, hg.size, fun k hk hn => hg.block k hk (fun e => hn (by subst e; simp))⟩ (fun t ht => hr t (by cases row <;> simp_all))
theorem Ch.below {w w' : World} (h : Ch [] w w') : Below w.heap.size w w' := ⟨h.os, h.tape, h.output, h.size, fun k hk => h.block k hk (by simp)⟩
theorem Ch.of_below {w w' : World} (h : Below w.heap.size w w') (S : List Nat) : Ch S w w' := ⟨h.os, h.tape, h.output, h.size, fun k hk _ => h.block k hk⟩
theorem Ch.cell {S : List Nat} {w w' : World} (h : Ch S w w') {p : Addr} {v : Value} (hc : w.cell? p = some v) (hp : p.block ∉ S) : w'.cell? p = some v :=
  (World.cell?_of_block (h.block _ (World.block_lt_of_cell? w p hc) hp)).trans hc

/-- Nothing but draws. -/
def Drawn (w w' : World) : Prop := ∃ n, w' = w.drewN n
theorem Drawn.refl (w : World) : Drawn w w := ⟨0, rfl⟩
theorem Drawn.of (w : World) (n : Nat) : Drawn w (w.drewN n) := ⟨n, rfl⟩
theorem Drawn.drewN {a w : World} (h : Drawn a w) (n : Nat) : Drawn a (w.drewN n) := by
  obtain ⟨m, rfl⟩ := h
  exact ⟨m + n, by rw [World.drewN_drewN]⟩
theorem Drawn.drew {a w : World} (h : Drawn a w) : Drawn a w.drew := h.drewN 1
theorem Drawn.ch {w w' : World} (h : Drawn w w') (S : List Nat) : Ch S w w' := by
  obtain ⟨n, rfl⟩ := h
  exact (Ch.refl S w).drewN n

/-! ### a block known whole -/
def Blk (w : World) (g : Nat) (t : TypeId) (cs : List Value) : Prop := w.heap[g]? = some (.cells cs.toArray t (0, 0))
section
variable {w w' : World} {g g' : Nat} {t t' : TypeId} {cs cs' : List Value}
theorem Blk.lt (h : Blk w g t cs) : g < w.heap.size := (Array.getElem?_eq_some_iff.1 h).1
theorem Blk.cell (h : Blk w g t cs) (i : Nat) : w.cell? ⟨g, i, none⟩ = cs[i]? := by
  have := cell_of_row w g i cs.toArray t (0, 0) h
  simpa using this
theorem Blk.frozen (h : Blk w g t cs) (i : Nat) : w.frozen? ⟨g, i, none⟩ = false := by
  unfold Blk at h
  simp [World.frozen?, h]
theorem Blk.new (w : World) (t : TypeId) (cs : List Value) : Blk (w.alloc (.cells cs.toArray t)) w.heap.size t cs := heap_alloc_new w _
theorem Blk.drewN (h : Blk w g t cs) (n : Nat) : Blk (w.drewN n) g t cs := h
theorem Blk.drew (h : Blk w g t cs) : Blk w.drew g t cs := h
theorem Blk.alloc (h : Blk w g t cs) (o : Obj) : Blk (w.alloc o) g t cs := (Below.heap_alloc w o g h.lt).trans h
theorem Blk.set_ (h : Blk w g t cs) (i : Nat) (u : Value) : Blk (w.setCell ⟨g, i, none⟩ u) g t (cs.set i u) := by
  unfold Blk at h ⊢
  simp [World.setCell, Array.getElem?_modify, h]
theorem Blk.far (h : Blk w g t cs) {p : Addr} (hp : g ≠ p.block) (u : Value) : Blk (w.setCell p u) g t cs := (Below.heap_setCell w p u g hp).trans h
theorem Blk.ch {S : List Nat} (h : Blk w g t cs) (hc : Ch S w w') (hg : g ∉ S) : Blk w' g t cs := (hc.block g h.lt hg).trans h
theorem Blk.ch0 (h : Blk w g t cs) (hc : Ch [] w w') : Blk w' g t cs := h.ch hc (by simp)
theorem Blk.ne_ (h : Blk w g t cs) (h' : Blk w g' t' cs') (hne : t ≠ t') : g ≠ g' := by
  rintro rfl
  unfold Blk at h h'
  rw [h] at h'
  injection h' with h'
  injection h' with _ ht
  exact hne ht
end

/-! ### kinds of data: what the cells of a value say; 'ok': which blocks its rows may be -/
structure Kd (α : Type) where
  sz : Nat
  K : World → (Nat → Prop) → α → List Value → Prop
  len : ∀ {w ok x cs}, K w ok x cs → cs.length = sz
  one : ∀ {w ok x cs}, K w ok x cs → ∀ u ∈ cs, u.oneCell' = true
  mono : ∀ {w ok ok' x cs}, (∀ k, ok k → ok' k) → K w ok x cs → K w ok' x cs
  bound : ∀ {w ok x cs}, K w ok x cs → K w (fun k => ok k ∧ k < w.heap.size) x cs
  move : ∀ {w w' : World} {ok x cs}, (∀ k, ok k → k < w.heap.size → w'.heap[k]? = w.heap[k]?) → w.heap.size ≤ w'.heap.size → K w ok x cs → K w' ok x cs
namespace Kd
variable {α : Type}
/-- The elements xs lie from A on. -/
def Row (d : Kd α) (w : World) (ok : Nat → Prop) (A : Option Addr) (xs : List α) : Prop :=
  0 < xs.length → ∃ b o, A = some ⟨b, o, none⟩ ∧ ok b ∧ b < w.heap.size ∧ ∀ j x, xs[j]? = some x → ∃ cs, d.K w ok x cs ∧ ∀ i u, cs[i]? = some u → w.cell? ⟨b, o + j * d.sz + i, none⟩ = some u
/-- The value is a slice of xs. -/
def At (d : Kd α) (w : World) (ok : Nat → Prop) (v : Value) (xs : List α) : Prop := ∃ A c, v = .slice A xs.length c ∧ xs.length ≤ c ∧ c ≤ maxLen ∧ d.Row w ok A xs
section
variable {d : Kd α} {w w' : World} {ok ok' : Nat → Prop} {A : Option Addr} {xs : List α} {v : Value} {x : α} {cs : List Value}
theorem Row.nil (d : Kd α) (w : World) (ok : Nat → Prop) (A : Option Addr) : d.Row w ok A [] := fun h => absurd h (by simp)
theorem Row.mono (h : d.Row w ok A xs) (hk : ∀ k, ok k → ok' k) : d.Row w ok' A xs := fun hn => by
  obtain ⟨b, o, e, h1, h2, h3⟩ := h hn
  refine ⟨b, o, e, hk _ h1, h2, fun j x hj => ?_⟩
  obtain ⟨cs, h4, h5⟩ := h3 j x hj
  exact ⟨cs, d.mono hk h4, h5⟩
theorem Row.move (h : d.Row w ok A xs) (hm : ∀ k, ok k → k < w.heap.size → w'.heap[k]? = w.heap[k]?) (hs : w.heap.size ≤ w'.heap.size) : d.Row w' ok A xs := fun hn => by
  obtain ⟨b, o, e, h1, h2, h3⟩ := h hn
  refine ⟨b, o, e, h1, Nat.lt_of_lt_of_le h2 hs, fun j x hj => ?_⟩
  obtain ⟨cs, h4, h5⟩ := h3 j x hj
  exact ⟨cs, d.move hm hs h4, fun i u hu => (World.cell?_of_block (hm b h1 h2)).trans (h5 i u hu)⟩
theorem Row.bound (h : d.Row w ok A xs) : d.Row w (fun k => ok k ∧ k < w.heap.size) A xs := fun hn => by
  obtain ⟨b, o, e, h1, h2, h3⟩ := h hn
  refine ⟨b, o, e, ⟨h1, h2⟩, h2, fun j x hj => ?_⟩
  obtain ⟨cs, h4, h5⟩ := h3 j x hj
  exact ⟨cs, d.bound h4, h5⟩
theorem At.bound (h : d.At w ok v xs) : d.At w (fun k => ok k ∧ k < w.heap.size) v xs := by
  obtain ⟨A, c, e, h1, h2, h3⟩ := h
  exact ⟨A, c, e, h1, h2, h3.bound⟩
theorem At.mono (h : d.At w ok v xs) (hk : ∀ k, ok k → ok' k) : d.At w ok' v xs := by
  obtain ⟨A, c, e, h1, h2, h3⟩ := h
  exact ⟨A, c, e, h1, h2, h3.mono hk⟩
theorem At.move (h : d.At w ok v xs) (hm : ∀ k, ok k → k < w.heap.size → w'.heap[k]? = w.heap[k]?) (hs : w.heap.size ≤ w'.heap.size) : d.At w' ok v xs := by
  obtain ⟨A, c, e, h1, h2, h3⟩ := h
  exact ⟨A, c, e, h1, h2, h3.move hm hs⟩
theorem ch_move {S : List Nat} (hc : Ch S w w') (hS : ∀ k, ok k → k < w.heap.size → k ∉ S) : ∀ k, ok k → k < w.heap.size → w'.heap[k]? = w.heap[k]? := fun k h1 h2 => hc.block k h2 (hS k h1 h2)
theorem K_ch {S : List Nat} (h : d.K w ok x cs) (hc : Ch S w w') (hS : ∀ k, ok k → k < w.heap.size → k ∉ S) : d.K w' ok x cs := d.move (ch_move hc hS) hc.size h
theorem At.ch {S : List Nat} (h : d.At w ok v xs) (hc : Ch S w w') (hS : ∀ k, ok k → k < w.heap.size → k ∉ S) : d.At w' ok v xs := h.move (ch_move hc hS) hc.size
theorem Row.ch {S : List Nat} (h : d.Row w ok A xs) (hc : Ch S w w') (hS : ∀ k, ok k → k < w.heap.size → k ∉ S) : d.Row w' ok A xs := h.move (ch_move hc hS) hc.size
theorem At.ch0 (h : d.At w ok v xs) (hc : Ch [] w w') : d.At w' ok v xs := h.ch hc (by simp)
theorem Row.ch0 (h : d.Row w ok A xs) (hc : Ch [] w w') : d.Row w' ok A xs := h.ch hc (by simp)
theorem K_ch0 (h : d.K w ok x cs) (hc : Ch [] w w') : d.K w' ok x cs := d.K_ch h hc (by simp)
theorem At.nil (d : Kd α) (w : World) (ok : Nat → Prop) : d.At w ok (.slice none 0 0) [] := ⟨none, 0, rfl, Nat.le_refl _, Nat.zero_le _, Row.nil _ _ _ _⟩
theorem At.len (h : d.At w ok v xs) : xs.length ≤ maxLen := by
  obtain ⟨A, c, e, h1, h2, h3⟩ := h
  omega
theorem Row.elem (h : d.Row w ok A xs) {k : Nat} (hk : k < xs.length) : ∃ b o cs, A = some ⟨b, o, none⟩ ∧ ok b ∧ b < w.heap.size ∧ d.K w ok xs[k] cs ∧ ∀ i u, cs[i]? = some u → w.cell? ⟨b, o + k * d.sz + i, none⟩ = some u := by
  obtain ⟨b, o, e, h1, h2, h3⟩ := h (by omega)
  obtain ⟨cs, h4, h5⟩ := h3 k _ (List.getElem?_eq_getElem hk)
  exact ⟨b, o, cs, e, h1, h2, h4, h5⟩
/-- The same with the row's own address given. -/
theorem Row.elem' {b o : Nat} (h : d.Row w ok (some ⟨b, o, none⟩) xs) {k : Nat} (hk : k < xs.length) : ∃ cs, d.K w ok xs[k] cs ∧ ∀ i u, cs[i]? = some u → w.cell? ⟨b, o + k * d.sz + i, none⟩ = some u := by
  obtain ⟨b', o', cs, e, h1, h2, h4, h5⟩ := h.elem hk
  injection e with e
  injection e with e1 e2
  subst e1 e2
  exact ⟨cs, h4, h5⟩
theorem Row.addr (h : d.Row w ok A xs) (hn : 0 < xs.length) : ∃ b o, A = some ⟨b, o, none⟩ ∧ ok b ∧ b < w.heap.size := by
  obtain ⟨b, o, e, h1, h2, _⟩ := h hn
  exact ⟨b, o, e, h1, h2⟩
theorem Row.take (h : d.Row w ok A xs) (n : Nat) : d.Row w ok A (xs.take n) := fun hn => by
  obtain ⟨b, o, e, h1, h2, h3⟩ := h (by rw [List.length_take] at hn; omega)
  refine ⟨b, o, e, h1, h2, fun j x hj => h3 j x ?_⟩
  rw [List.getElem?_take] at hj
  split at hj
  · exact hj
  · cases hj
theorem Row.drop {b o : Nat} (h : d.Row w ok (some ⟨b, o, none⟩) xs) (n : Nat) : d.Row w ok (some ⟨b, o + n * d.sz, none⟩) (xs.drop n) := fun hn => by
  rw [List.length_drop] at hn
  obtain ⟨b', o', e, h1, h2, h3⟩ := h (by omega)
  injection e with e
  injection e with e1 e2
  subst e1 e2
  refine ⟨_, _, rfl, h1, h2, fun j x hj => ?_⟩
  rw [List.getElem?_drop] at hj
  obtain ⟨cs, h4, h5⟩ := h3 _ x hj
  refine ⟨cs, h4, fun i u hu => ?_⟩
  have := h5 i u hu
  rw [Nat.add_mul] at this
  rw [show o + n * d.sz + j * d.sz + i = o + (n * d.sz + j * d.sz) + i by omega]
  exact this
end

/-! #### the kinds -/
def scalar {α : Type} (enc : α → Value) (h1 : ∀ x, (enc x).oneCell' = true) : Kd α where
  sz := 1
  K := fun _ _ x cs => cs = [enc x]
  len := fun h => by rw [h]; rfl
  one := fun h u hu => by
    rw [h] at hu
    rw [List.mem_singleton.1 hu]
    exact h1 _
  mono := fun _ h => h
  bound := fun h => h
  move := fun _ _ h => h
/-- A struct of plain fields. -/
def flat {α : Type} (n : Nat) (enc : α → List Value) (hl : ∀ x, (enc x).length = n) (h1 : ∀ x, ∀ u ∈ enc x, u.oneCell' = true) : Kd α where
  sz := n
  K := fun _ _ x cs => cs = enc x
  len := fun h => by rw [h]; exact hl _
  one := fun h u hu => by
    rw [h] at hu
    exact h1 _ u hu
  mono := fun _ h => h
  bound := fun h => h
  move := fun _ _ h => h
def slice {α : Type} (d : Kd α) : Kd (List α) where
  sz := 1
  K := fun w ok xs cs => ∃ v, cs = [v] ∧ d.At w ok v xs
  len := by
    rintro w ok x cs ⟨v, rfl, _⟩
    rfl
  one := by
    rintro w ok x cs ⟨v, rfl, A, c, rfl, _⟩ u hu
    rw [List.mem_singleton.1 hu]
    rfl
  mono := by
    rintro w ok ok' x cs hk ⟨v, rfl, h⟩
    exact ⟨v, rfl, h.mono hk⟩
  bound := by
    rintro w ok x cs ⟨v, rfl, h⟩
    exact ⟨v, rfl, h.bound⟩
  move := by
    rintro w w' ok x cs hm hs ⟨v, rfl, h⟩
    exact ⟨v, rfl, h.move hm hs⟩
end Kd

/-! ### rows that the call owns -/
/-- Elements' cells one behind the other. -/
def Reps {α : Type} (R : α → List Value → Prop) (size : Nat) (ps : List α) (cs : List Value) : Prop :=
  cs.length = ps.length * size ∧ ∀ j p, ps[j]? = some p → R p ((cs.drop (j * size)).take size)
theorem Reps.nil {α : Type} (R : α → List Value → Prop) (size : Nat) : Reps R size [] [] := ⟨by simp, fun j p h => by simp at h⟩
theorem Reps.imp {α : Type} {R R' : α → List Value → Prop} {size : Nat} {ps : List α} {cs : List Value} (h : Reps R size ps cs) (hR : ∀ p c, R p c → R' p c) : Reps R' size ps cs := ⟨h.1, fun j p hj => hR _ _ (h.2 j p hj)⟩
theorem Reps.snoc {α : Type} {R : α → List Value → Prop} {size : Nat} {ps : List α} {cs c : List Value} {p : α} (h : Reps R size ps cs) (hp : R p c) (hc : c.length = size) : Reps R size (ps ++ [p]) (cs ++ c) := by
  refine ⟨by rw [List.length_append, h.1, hc, List.length_append, List.length_singleton, Nat.add_mul, Nat.one_mul], fun j q hq => ?_⟩
  by_cases hj : j < ps.length
  · rw [List.getElem?_append_left hj] at hq
    have h1 : j * size + size ≤ cs.length := by rw [h.1, ← Nat.succ_mul]; exact Nat.mul_le_mul_right _ hj
    have h2 := h.2 j q hq
    rwa [List.drop_append_of_le_length (by omega), List.take_append_of_le_length (by rw [List.length_drop]; omega)]
  · have hj' : j = ps.length := by
      have := (List.getElem?_eq_some_iff.1 hq).1
      rw [List.length_append, List.length_singleton] at this
      omega
    subst hj'
    have hq' : p = q := by simpa using hq
    subst hq'
    rw [← h.1, List.drop_left, ← hc, List.take_length]
    exact hp
namespace Kd
variable {α : Type}
/-- A row from block 'base' on, of element type e, that holds xs; the elements' own rows are other blocks. -/
def Own (d : Kd α) (e : TypeId) (w : World) (base : Nat) (ok : Nat → Prop) (v : Value) (xs : List α) : Prop :=
  ∃ inner, w.ownsRow base e d.sz v xs.length inner ∧ Reps (d.K w (fun k => ok k ∧ some k ≠ v.ownBlock)) d.sz xs inner
section
variable {d : Kd α} {e : TypeId} {w w' : World} {base : Nat} {ok ok' : Nat → Prop} {xs : List α} {v : Value} {x : α} {cs : List Value}
theorem Own.nil (d : Kd α) (e : TypeId) (w : World) (base : Nat) (ok : Nat → Prop) : d.Own e w base ok (.slice none 0 0) [] := ⟨[], World.ownsRow_nil _ _ _ _, Reps.nil _ _⟩
theorem Own.mono (h : d.Own e w base ok v xs) (hk : ∀ k, ok k → ok' k) : d.Own e w base ok' v xs := by
  obtain ⟨inner, h1, h2⟩ := h
  exact ⟨inner, h1, h2.imp fun _ _ hp => d.mono (fun k hk1 => ⟨hk k hk1.1, hk1.2⟩) hp⟩
theorem Own.block (h : d.Own e w base ok v xs) : ∀ k, v.ownBlock = some k → base ≤ k ∧ k < w.heap.size := by
  obtain ⟨inner, h1, h2⟩ := h
  exact h1.lt
theorem ownsRow_move {size n : Nat} {ys : List Value} (h : w.ownsRow base e size v n ys) (hm : ∀ k, v.ownBlock = some k → w'.heap[k]? = w.heap[k]?) : w'.ownsRow base e size v n ys := by
  obtain ⟨h1, h2⟩ := h
  refine ⟨h1, ?_⟩
  rcases h2 with h2 | ⟨g, cap, cur, rfl, hg, hh, r⟩
  · exact .inl h2
  · exact .inr ⟨g, cap, cur, rfl, hg, (hm g (by simp [Value.ownBlock])).trans hh, r⟩
theorem Own.ch {S : List Nat} (h : d.Own e w base ok v xs) (hc : Ch S w w') (hv : ∀ k, v.ownBlock = some k → k ∉ S) (hS : ∀ k, ok k → k < w.heap.size → k ∉ S) : d.Own e w' base ok v xs := by
  obtain ⟨inner, h1, h2⟩ := h
  exact ⟨inner, ownsRow_move h1 (fun k hk => hc.block k (h1.lt k hk).2 (hv k hk)), h2.imp fun _ _ hp => d.K_ch hp hc (fun k hk hlt => hS k hk.1 hlt)⟩
/-- With blocks that are there alone. -/
theorem Own.bound (h : d.Own e w base ok v xs) : d.Own e w base (fun k => ok k ∧ k < w.heap.size) v xs := by
  obtain ⟨inner, h1, h2⟩ := h
  exact ⟨inner, h1, h2.imp fun _ _ hp => d.mono (fun k hk => ⟨⟨hk.1.1, hk.2⟩, hk.1.2⟩) (d.bound hp)⟩
theorem Own.ch0 (h : d.Own e w base ok v xs) (hc : Ch [] w w') : d.Own e w' base ok v xs := h.ch hc (by simp) (by simp)
/-- A row of the call's own while blocks below its base, and new ones, turn. -/
theorem Own.keep {S : List Nat} (h : d.Own e w base ok v xs) (hc : Ch S w w') (hS : ∀ t ∈ S, t < base ∨ w.heap.size ≤ t) (hok : ∀ k, ok k → base ≤ k) : d.Own e w' base ok v xs :=
  h.ch hc (fun k hk hm => by have := h.block k hk; have := hS k hm; omega) (fun k hk hlt hm => by have := hok k hk; have := hS k hm; omega)
theorem Own.form (h : d.Own e w base ok v xs) : ∃ A c, v = .slice A xs.length c := by
  obtain ⟨inner, h1, h2⟩ := h
  rcases h1.2 with ⟨rfl, h3⟩ | ⟨g, cap, cur, rfl, _⟩
  · exact ⟨none, 0, by rw [h3]⟩
  · exact ⟨_, _, rfl⟩
theorem Own.setCell (h : d.Own e w base ok v xs) {p : Addr} (hv : ∀ k, v.ownBlock = some k → k ≠ p.block) (hS : ∀ k, ok k → k ≠ p.block) (u : Value) : d.Own e (w.setCell p u) base ok v xs :=
  h.ch ((Ch.refl [p.block] w).setCell (by simp) u) (fun k hk => by simpa using hv k hk) (fun k hk _ => by simpa using hS k hk)
/-- What is owned is read. -/
theorem Own.at_ (h : d.Own e w base ok v xs) (hok : ∀ k, v.ownBlock = some k → ok k) : d.At w ok v xs := by
  obtain ⟨inner, h1, h2⟩ := h
  rcases h1.2 with ⟨rfl, h3⟩ | ⟨g, cap, cur, rfl, hg, hh, hn, hm, hcs, htake⟩
  · exact ⟨none, 0, by rw [h3], by omega, Nat.zero_le _, fun hp => absurd hp (by omega)⟩
  · refine ⟨_, cap, rfl, hn, hm, fun hp => ⟨g, 0, rfl, hok g (by simp [Value.ownBlock]), (h1.lt g (by simp [Value.ownBlock])).2, fun j p hj => ?_⟩⟩
    refine ⟨_, d.mono (fun k hk => hk.1) (h2.2 j p hj), fun i u hu => ?_⟩
    have := h1.cells (g := g) (by simp [Value.ownBlock]) (j * d.sz + i) u (by
      rw [List.getElem?_take] at hu
      split at hu
      · rw [List.getElem?_drop] at hu
        exact hu
      · cases hu)
    have hadd : (⟨g, 0, none⟩ : Addr).add (j * d.sz + i) = ⟨g, 0 + j * d.sz + i, none⟩ := by unfold Addr.add; split <;> simp_all
    rw [← hadd]
    exact this
/-- The same, its block among those from base on. -/
theorem Own.at' (h : d.Own e w base (fun k => base ≤ k) v xs) : d.At w (fun k => base ≤ k) v xs := h.at_ (fun k hk => (h.block k hk).1)
end
section
variable {P : Program} {ops : Array Oper} {rest : List Oper} {o : Oper} {a : Act} {Q : Exit → Act → World → Prop} {K : Act → World → Prop}
/-- append(v, x), the goal's world that of the variadic's box laid last. -/
theorem append_core (d : Kd α) {W : World} {base : Nat} {ok : Nat → Prop} (s x : Operand) (t e : TypeId) (z : Value) (bytes : Nat)
    (ho : o.op = .call { callee := .builtin .append, args := #[s, x], argTypes := #[t, t] })
    (ht : P.underlying t = some (.slice e)) (hinfo : (P.info? e).map (fun i => (i.zero, i.size, i.bytes)) = some (some z, d.sz, bytes)) (hz : z.cells.size = d.sz) (hs0 : 0 < d.sz) (hb0 : 0 < bytes)
    {v : Value} {xs : List α} {p : α} {cs : List Value} (hs : a.eval s = v) {B : Nat} (hx : a.eval x = .slice (some ⟨B, 0, none⟩) 1 1) (hB : W.heap.size = B) (hp : d.K W (fun k => ok k ∧ some k ≠ v.ownBlock) p cs)
    (HO : d.Own e W base ok v xs) (hbase : base ≤ W.heap.size) (hl : (xs.length + 1) * bytes ≤ 140737488355328)
    (h : ∀ v1 w1, d.Own e w1 base ok v1 (xs ++ [p]) → Ch v.ownBlock.toList W w1 → (v1.ownBlock = v.ownBlock ∨ ∃ b, v1.ownBlock = some b ∧ W.heap.size ≤ b) → K (a.put o.dst v1) w1) :
    o.wp P a (W.alloc (.cells cs.toArray e)) K Q := by
  subst hB
  obtain ⟨i0, hi, hzz⟩ := Option.map_eq_some_iff.1 hinfo
  simp only [Prod.mk.injEq] at hzz
  obtain ⟨hz0, hz1, hz2⟩ := hzz
  obtain ⟨inner, h1, h2⟩ := HO
  have hlen : xs.length + 1 ≤ 140737488355328 := Nat.le_trans (Nat.le_mul_of_pos_right _ hb0) hl
  have hcl := d.len hp
  obtain ⟨v', w', hr, hown, hg, _, hat⟩ := run_append_own_at (P := P) (W.alloc (.cells cs.toArray e)) base t o.type e i0 z d.sz bytes ht hi hz0 hz1 hz2 hz hs0 v xs.length inner (h1.alloc _) ⟨W.heap.size, 0, none⟩ 1 1 cs (by rw [hcl]; simp)
    (by simpa using World.news_of_block (cs := cs.toArray) (t := e) (fr := (0, 0)) (heap_alloc_new W (.cells cs.toArray e))) (d.one hp) (by simp only [maxLen]; omega) hl (by simp; omega)
  have hch : Ch v.ownBlock.toList W w' := ((Ch.refl _ W).alloc _).grown hg (fun k hk => .inl (by rw [hk]; simp))
  have hat' : v'.ownBlock = v.ownBlock ∨ ∃ b, v'.ownBlock = some b ∧ W.heap.size ≤ b := by
    rcases hat with hat | hat
    · exact .inl hat
    · exact .inr ⟨_, hat, by simp⟩
  have hK : ∀ q c, d.K W (fun k => ok k ∧ some k ≠ v.ownBlock) q c → d.K w' (fun k => ok k ∧ some k ≠ v'.ownBlock) q c := by
    intro q c hq
    rcases hat' with hat | ⟨b, hb1, hb2⟩
    · rw [hat]
      exact d.K_ch hq hch (fun k hk _ hm => hk.2 (by simpa [eq_comm] using hm))
    · have hq1 : d.K W (fun k => (ok k ∧ some k ≠ v.ownBlock) ∧ k < W.heap.size) q c := d.bound hq
      refine d.mono (fun k hk => ⟨hk.1.1, ?_⟩) (d.K_ch hq1 hch (fun k hk _ hm => hk.1.2 (by simpa [eq_comm] using hm)))
      rw [hb1]
      intro he
      injection he with he
      omega
  unfold Oper.wp execOp
  simp only [ho, resolve, invoke, builtin, Sem.run_bind, Sem.run_pure, Result.andThen_ok, List.map_toArray, List.map_cons, List.map_nil, hs, hx, hr]
  refine h v' w' ⟨inner ++ cs, by rw [List.length_append, List.length_singleton]; exact hown, ?_⟩ hch hat'
  exact (h2.imp hK).snoc (hK _ _ hp) hcl
/-- The same at a list of operations (behind 'at_builtin'). -/
theorem wpList_append (d : Kd α) {W : World} {base : Nat} {ok : Nat → Prop} (hgd : o.guard = none) (s x : Operand) (t e : TypeId) (z : Value) (bytes : Nat)
    (ho : o.op = .call { callee := .builtin .append, args := #[s, x], argTypes := #[t, t] })
    (ht : P.underlying t = some (.slice e)) (hinfo : (P.info? e).map (fun i => (i.zero, i.size, i.bytes)) = some (some z, d.sz, bytes)) (hz : z.cells.size = d.sz) (hs0 : 0 < d.sz) (hb0 : 0 < bytes)
    {v : Value} {xs : List α} {p : α} {cs : List Value} (hs : a.eval s = v) {B : Nat} (hx : a.eval x = .slice (some ⟨B, 0, none⟩) 1 1) (hB : W.heap.size = B) (hp : d.K W (fun k => ok k ∧ some k ≠ v.ownBlock) p cs)
    (HO : d.Own e W base ok v xs) (hbase : base ≤ W.heap.size) (hl : (xs.length + 1) * bytes ≤ 140737488355328)
    (h : ∀ v1 w1, d.Own e w1 base ok v1 (xs ++ [p]) → Ch v.ownBlock.toList W w1 → (v1.ownBlock = v.ownBlock ∨ ∃ b, v1.ownBlock = some b ∧ W.heap.size ≤ b) → wpList P ops Q rest (a.put o.dst v1) w1) :
    wpList P ops Q (o :: rest) a (W.alloc (.cells cs.toArray e)) :=
  wpList_plain hgd fun _ hK => append_core d s x t e z bytes ho ht hinfo hz hs0 hb0 hs hx hB hp HO hbase hl fun v1 w1 h1 h2 h3 => hK _ _ (h v1 w1 h1 h2 h3)
end
end Kd
end Go.Proofs.Ytmojbpgabpbacaa
