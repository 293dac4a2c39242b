/- The stable sort of places: what the row holds; the comparison; the exchange of ranges. -/
import Derived.Test.YtmojbpgabpbacaaRefB
import Derived.Test.YtmojbpgabpbacaaSwaps
import Derived.Deep.QuietTactic
import Derived.BigQuiet
import Derived.BigRegion
import Derived.Sort.Grow
namespace Go.Proofs.Ytmojbpgabpbacaa
open Go.RowKit

/-! ### regions that draw, whose callees lay blocks of their own -/
/-- A later world in which all that lay lies as it lay. -/
structure Later (w : World) where
  world : World
  ch : Ch [] w world
instance (w : World) : Inhabited (Later w) := ⟨⟨w, Ch.refl _ _⟩⟩
theorem wp_region_later {P : Program} {id : Nat} {Q : Exit → Act → World → Prop} {a : Act} {w : World} {l : List Oper} (hm : P.follows .mixedOrders = true) (hB : Region.lexB .any l.toArray = true)
    (h : wpQuiet P l.toArray (fun w' => ∃ p : Later w, w' = p.world) (fun a' => ∀ w', (∃ p : Later w, w' = p.world) → Q .normal a' w') l a) : (Code.region id l.toArray true).wp P Q a w :=
  wp_region_quiet (C := fun w' => ∃ p : Later w, w' = p.world) hm hB ⟨⟨_, (Ch.refl [] w).drew⟩, rfl⟩ (by simpa using h)
theorem Calls.later {P : Program} {f : FuncId} {args : Array Value} {w : World} {p : Later w} {v : Value} (h : Calls P f args p.world fun e w' => e = .returned v ∧ Ch [] p.world w') :
    Calls P f args p.world fun e w'' => e = .returned v ∧ ∃ q : Later w, w'' = q.world :=
  h.mono fun _ w'' ⟨he, hc⟩ => ⟨he, ⟨w'', p.ch.trans0 hc⟩, rfl⟩
structure Place where
  token : Nat
  name : Bytes
abbrev vPlace (x : Place) : Value := .agg #[vU64 x.token, vStr x.name]
def flat : List Place → List Value
  | [] => []
  | x :: r => vU64 x.token :: vStr x.name :: flat r
theorem flat_len (t : List Place) : (flat t).length = t.length * 2 := by
  induction t with
  | nil => rfl
  | cons x r ih => simp only [flat, List.length_cons, ih]; omega
theorem flat_append (a b : List Place) : flat (a ++ b) = flat a ++ flat b := by
  induction a with
  | nil => rfl
  | cons x r ih => simp [flat, ih]
theorem flat_get (t : List Place) (sp : List Value) (k : Nat) (h : k < t.length) : (flat t ++ sp)[k * 2]? = some (vU64 t[k].token) ∧ (flat t ++ sp)[k * 2 + 1]? = some (vStr t[k].name) := by
  induction t generalizing k with
  | nil => simp at h
  | cons x r ih =>
    cases k with
    | zero => exact ⟨rfl, rfl⟩
    | succ k =>
      have := ih k (by simpa using h)
      rw [show (k + 1) * 2 = k * 2 + 1 + 1 by omega]
      exact this
theorem flat_set (t : List Place) (sp : List Value) (k : Nat) (x : Place) (h : k < t.length) : ((flat t ++ sp).set (k * 2) (vU64 x.token)).set (k * 2 + 1) (vStr x.name) = flat (t.set k x) ++ sp := by
  induction t generalizing k with
  | nil => simp at h
  | cons y r ih =>
    cases k with
    | zero => rfl
    | succ k =>
      have := ih k (by simpa using h)
      rw [show (k + 1) * 2 = k * 2 + 1 + 1 by omega]
      simp only [flat, List.cons_append, List.set_cons_succ, this]
/-- The row in block b holds t, and sp behind it. -/
def PRow (w : World) (b : Nat) (sp : List Value) (t : List Place) : Prop := Blk w b 87 (flat t ++ sp)
section
variable {w w' : World} {b : Nat} {sp : List Value} {t : List Place} {k : Nat}
theorem PRow.facts (h : PRow w b sp t) (hk : k < t.length) : w.cell? ⟨b, k * 2, none⟩ = some (vU64 t[k].token) ∧ w.cell? ⟨b, k * 2 + 1, none⟩ = some (vStr t[k].name) ∧ w.frozen? ⟨b, k * 2, none⟩ = false ∧ w.frozen? ⟨b, k * 2 + 1, none⟩ = false :=
  ⟨(Blk.cell h _).trans (flat_get t sp k hk).1, (Blk.cell h _).trans (flat_get t sp k hk).2, Blk.frozen h _, Blk.frozen h _⟩
theorem PRow.ch {S : List Nat} (h : PRow w b sp t) (hc : Ch S w w') (hb : b ∉ S) : PRow w' b sp t := Blk.ch h hc hb
theorem PRow.ch0 (h : PRow w b sp t) (hc : Ch [] w w') : PRow w' b sp t := Blk.ch0 h hc
theorem PRow.put (h : PRow w b sp t) (hk : k < t.length) (x : Place) : PRow ((w.setCell ⟨b, k * 2, none⟩ (vU64 x.token)).setCell ⟨b, k * 2 + 1, none⟩ (vStr x.name)) b sp (t.set k x) := by
  unfold PRow
  rw [← flat_set t sp k x hk]
  exact (Blk.set_ h _ _).set_ _ _
end
/-- Two places exchanged. -/
def swp (t : List Place) (i j : Nat) (hi : i < t.length) (hj : j < t.length) : List Place := (t.set i t[j]).set j t[i]
theorem PRow.swp {w : World} {b : Nat} {sp : List Value} {t : List Place} {i j : Nat} (h : PRow w b sp t) (hi : i < t.length) (hj : j < t.length) :
    PRow ((((w.setCell ⟨b, i * 2, none⟩ (vU64 t[j].token)).setCell ⟨b, i * 2 + 1, none⟩ (vStr t[j].name)).setCell ⟨b, j * 2, none⟩ (vU64 t[i].token)).setCell ⟨b, j * 2 + 1, none⟩ (vStr t[i].name)) b sp (swp t i j hi hj) :=
  (h.put hi t[j]).put (by simpa using hj) t[i]

theorem swp_get (t : List Place) (i j : Nat) (hi : i < t.length) (hj : j < t.length) (hne : i ≠ j) (x : Nat) : (swp t i j hi hj)[x]? = if x = i then t[j]? else if x = j then t[i]? else t[x]? := by
  unfold Go.Proofs.Ytmojbpgabpbacaa.swp
  rw [List.getElem?_set, List.getElem?_set, List.length_set]
  have c : x = i ∨ x = j ∨ (x ≠ i ∧ x ≠ j) := by omega
  rcases c with rfl | rfl | ⟨h1, h2⟩
  · rw [if_neg (by omega), if_pos rfl, if_pos hi, if_pos rfl, List.getElem?_eq_getElem hj]
  · rw [if_pos rfl, if_pos hj, if_neg (by omega), if_pos rfl, List.getElem?_eq_getElem hi]
  · rw [if_neg (by omega), if_neg (by omega), if_neg h1, if_neg h2]
theorem swp_len (t : List Place) (i j : Nat) (hi : i < t.length) (hj : j < t.length) : (swp t i j hi hj).length = t.length := by simp [Go.Proofs.Ytmojbpgabpbacaa.swp]

/-! ### the comparison -/
def cmpN (x y : Nat) : Int := if x < y then -1 else if y < x then 1 else 0
def cmpI (a b : Place) : Int := cmpN a.token b.token
set_option maxHeartbeats 800000 in
theorem isNaN_w (w : World) (x : Nat) : Calls Try.prog 82 #[vU64 x] w fun r w' => r = .returned (.bool false) ∧ w = w' := by
  refine calls_hide fun K hK => ?_
  go_enter Try.func82, Try.ntmps82
  go_wp2
  exact hK.out _ _ ⟨by simp, rfl⟩
set_option maxHeartbeats 800000 in
theorem compare_w (w : World) (x y : Nat) : Calls Try.prog 41 #[vU64 x, vU64 y] w fun r w' => r = .returned (.int .i64 (cmpN x y)) ∧ w = w' := by
  refine calls_hide fun K hK => ?_
  go_enter Try.func41, Try.ntmps41
  go_wp2_with (go_at_call 82; refine (isNaN_w _ _).mono ?_; rintro e w' ⟨rfl, rfl⟩)
  · exact hK.out _ _ ⟨by unfold cmpN; rw [if_pos (by omega)]; rfl, rfl⟩
  · exact hK.out _ _ ⟨by unfold cmpN; rw [if_neg (by omega), if_pos (by omega)]; rfl, rfl⟩
  · exact hK.out _ _ ⟨by unfold cmpN; rw [if_neg (by omega), if_neg (by omega)]; rfl, rfl⟩
set_option maxHeartbeats 800000 in
theorem cmp40_w (w : World) (x y : Place) : Calls Try.prog 40 #[vPlace x, vPlace y] w fun r w' => r = .returned (.int .i64 (cmpI x y)) ∧ Ch [] w w' := by
  refine calls_hide fun K hK => ?_
  go_enter Try.func40, Try.ntmps40
  go_wp2_with (go_at_call 41; refine (compare_w _ _ _).mono ?_; rintro e w' ⟨rfl, rfl⟩)
  exact hK.out _ _ ⟨rfl, ((Ch.refl _ _).alloc _).alloc _⟩

set_option maxHeartbeats 3200000 in
theorem swapRange_w (w : World) (blk : Nat) (sp : List Value) (cp : Nat) (fv : Value) (A X M Y B t : List Place) (a b n L : Nat) (hL : t.length = L) (htt : t = A ++ (X ++ (M ++ (Y ++ B)))) (hA : A.length = a) (hX : X.length = n) (hM : a + n + M.length = b) (hY : Y.length = n) (hbig : L ≤ 1000000) (h : PRow w blk sp t) :
    Calls Try.prog 181 #[.slice (some ⟨blk, 0, none⟩) L cp, vInt a, vInt b, vInt n, fv] w fun r w' => r = .returned vUnit ∧ PRow w' blk sp (A ++ (Y ++ (M ++ (X ++ B)))) ∧ Ch [blk] w w' := by
  refine calls_hide fun K hK => ?_
  have hb : b + n ≤ L := by rw [← hL, htt]; simp only [List.length_append]; omega
  have ha : a + n ≤ b := by omega
  have HT := hide htt
  clear htt
  go_enter Try.func181, Try.ntmps181
  go_wp2
  go_loopw [10] (fun i wr => ∃ (k : Nat) (s : List Place), i = vInt k ∧ k ≤ n ∧ Hid (Swapped t s a b k) ∧ s.length = L ∧ PRow wr blk sp s ∧ Ch [blk] w wr) (fun i _ => n - (intOf i).toNat)
  case atStart => exact ⟨0, t, rfl, by omega, hide (Swapped.start _ _ _), hL, h, Ch.refl _ _⟩
  case round =>
    obtain ⟨k, s, rfl, hk, hsw, hs, hp, hch⟩ := hrel
    by_cases hlt : k < n
    · have q1 : IntKind.i64.wrap ((a : Int) + k) = ((a + k : Nat) : Int) := by rw [IntWalk.i64_in _ (by omega)]; omega
      have q2 : IntKind.i64.wrap ((b : Int) + k) = ((b + k : Nat) : Int) := by rw [IntWalk.i64_in _ (by omega)]; omega
      obtain ⟨i, hi⟩ : ∃ i, a + k = i := ⟨_, rfl⟩
      obtain ⟨j, hj⟩ : ∃ j, b + k = j := ⟨_, rfl⟩
      rw [hi] at q1
      rw [hj] at q2
      have i1 : i < s.length := by omega
      have j1 : j < s.length := by omega
      obtain ⟨c0, c1, f0, f1⟩ := hp.facts i1
      obtain ⟨d0, d1, g0, g1⟩ := hp.facts j1
      have i2 : (i : Int) < (L : Int) := by omega
      have j2 : (j : Int) < (L : Int) := by omega
      have ij : i < j := by omega
      go_wp2
      have hnew := hide (hp.swp i1 j1)
      have hget := swp_get s i j i1 j1 (by omega)
      have hnx := hide (hsw.out.next (s' := swp s i j i1 j1) (by omega) (swp_len _ _ _ _ _) (by rw [hi, hj]; exact hget))
      clear hget
      go_region
      go_wp2
      go_roundw
      case rel => exact ⟨k + 1, swp s i j i1 j1, by go_num, by omega, hnx, (swp_len _ _ _ _ _).trans hs, hnew.out, (((((hch.drew).setCell (by simp) _).setCell (by simp) _).setCell (by simp) _).setCell (by simp) _)⟩
      case measure => simp [intOf]; omega
    · go_wp2
      go_end0
      obtain rfl : k = n := by omega
      have hf := hsw.out
      rw [HT.out] at hf
      have := hf.lists hA hX hM hY
      subst this
      exact hK.out _ _ ⟨rfl, hp, hch⟩
end Go.Proofs.Ytmojbpgabpbacaa
