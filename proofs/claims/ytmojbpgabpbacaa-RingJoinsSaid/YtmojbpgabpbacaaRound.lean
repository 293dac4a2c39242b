/- ring.round's closure: the places in turn, from the first one that is at least a key on. -/
import Derived.RangeFuncNested
import Derived.RangeFuncBound
import Derived.RangeFuncCalls
import Derived.RangeFuncLeaves
import Derived.RangeFuncBox
import Derived.Shelf.Abstract
import Derived.Shelf.RegionOpen
import Derived.WalkKit
import Derived.OwnWalkIn
import Derived.TacticsInMore
import Derived.LoopNIn
import Derived.LoopIn
import Derived.Maps.AppendAt
import Derived.BigRegionIn
import Derived.Stop.RegionWithIn
import Derived.Test.YtmojbpgabpbacaaContains
namespace Go.Proofs.Ytmojbpgabpbacaa
open Go.RowKit Go.Shelf
attribute [local go_sem] Oper.semAt_some

/-- What lay below n₀ lies so, but for block ob. -/
def Kq (n₀ ob : Nat) (A B : World) : Prop := A.heap.size ≤ B.heap.size ∧ ∀ k, k < n₀ → k ≠ ob → B.heap[k]? = A.heap[k]?
theorem Kq.trans {n₀ ob : Nat} {A B C : World} (h : Kq n₀ ob A B) (k : Kq n₀ ob B C) : Kq n₀ ob A C := ⟨Nat.le_trans h.1 k.1, fun i h1 h2 => (k.2 i h1 h2).trans (h.2 i h1 h2)⟩
theorem Kq.of_ch {n₀ ob : Nat} {A B : World} (h : Ch [] A B) (hn : n₀ ≤ A.heap.size) : Kq n₀ ob A B := ⟨h.size, fun k h1 _ => h.block k (by omega) (by simp)⟩
theorem Kq.refl (n₀ ob : Nat) (A : World) : Kq n₀ ob A A := ⟨Nat.le_refl _, fun _ _ _ => rfl⟩
theorem Kq.cell {n₀ ob : Nat} {A B : World} (h : Kq n₀ ob A B) {p : Addr} (hb : p.block < n₀ ∧ p.block ≠ ob) : B.cell? p = A.cell? p := World.cell?_of_block (h.2 _ hb.1 hb.2)
/-- k places, in turn from place i on. -/
def turn (xs : List Place) (i k : Nat) : List Place := (List.range k).map fun j => xs[(i + j) % xs.length]?.getD ⟨0, []⟩
theorem turn_succ (xs : List Place) (i k : Nat) : turn xs i (k + 1) = turn xs i k ++ [xs[(i + k) % xs.length]?.getD ⟨0, []⟩] := by simp [turn, List.range_succ]
theorem turn_len (xs : List Place) (i k : Nat) : (turn xs i k).length = k := by simp [turn]
/-- The first place that is at least a key. -/
def First (xs : List Place) (key i : Nat) : Prop := i ≤ xs.length ∧ (∀ x, xs[i - 1]? = some x → 0 < i → x.token < key) ∧ (∀ x, xs[i]? = some x → key ≤ x.token)

theorem two_ways {e : Ending} {A B : Prop} (h : (e = .returned (.bool true) ∧ A) ∨ (e = .returned (.bool false) ∧ B)) : ∃ t, e = .returned (.bool t) ∧ ((t = true ∧ A) ∨ (t = false ∧ B)) := by
  rcases h with ⟨rfl, h⟩ | ⟨rfl, h⟩
  · exact ⟨true, rfl, .inl ⟨rfl, h⟩⟩
  · exact ⟨false, rfl, .inr ⟨rfl, h⟩⟩
set_option maxRecDepth 100000 in
set_option maxHeartbeats 2000000 in
theorem round1_in (n : Nat) (hn : 1 ≤ n) (l b1 b2 n₀ ob : Nat) (A : Option Addr) (cap : Nat) (xs : List Place) (key : Nat) (hbig : xs.length ≤ 1000000) (J Jx : List Place → World → Prop)
    (hY : ∀ pre x W, J pre W → pre.length < xs.length → YieldAt Fence.wide (n - 1) Try.prog l #[vPlace x] W fun e W' =>
      (e = .returned (.bool true) ∧ J (pre ++ [x]) W' ∧ Kq n₀ ob W W') ∨ (e = .returned (.bool false) ∧ Jx (pre ++ [x]) W'))
    (hJ : ∀ pre W W', J pre W → Ch [] W W' → J pre W')
    (W : World) (h1 : W.cell? ⟨b1, 0, none⟩ = some (.slice A xs.length cap)) (h2 : W.cell? ⟨b2, 0, none⟩ = some (vU64 key)) (hat : Kd.place.At W (fun k => k < n₀ ∧ k ≠ ob) (.slice A xs.length cap) xs) (hb1 : b1 < n₀ ∧ b1 ≠ ob) (hb2 : b2 < n₀ ∧ b2 ≠ ob) (hn0 : n₀ ≤ W.heap.size) (h0 : J [] W) :
    CallsIn Fence.wide n Try.prog 83 #[.func (.yield l) #[] #[], vPtr b1, vPtr b2] W fun e W' => (∃ v, e = .returned v) ∧
      ∃ i, First xs key i ∧ ((∃ ys, ys = turn xs i xs.length ∧ J ys W') ∨ (∃ k, k ≤ xs.length ∧ Jx (turn xs i k) W')) := by
  refine callsIn_of_wp Try.func83 rfl trivial ?_ rfl
  simp only [Try.ntmps83, List.size_toArray, List.length_cons, List.length_nil, Nat.reduceAdd, Nat.reduceSub, Array.replicate_succ, Array.replicate_zero, List.push_toArray, List.append_toArray, List.nil_append, List.cons_append]
  gi_wp2_with (refine ⟨trivial, ?_⟩; gi_at_call 84; refine (callsIn_wide.2 (search_w _ _ _ _ _ hbig hat)).mono ?_; rintro e W1 ⟨i, f, rfl, hi1, hi2, hi3, hch⟩; have h1' := hch.cell h1 (by simp); have h2' := hch.cell h2 (by simp))
  have hbW : Kq n₀ ob W W1 := Kq.of_ch hch hn0
  gi_loopw [15] (fun iv wr => ∃ k : Nat, k ≤ xs.length ∧ iv = vInt k ∧ J (turn xs i k) wr ∧ Kq n₀ ob W wr) (fun i _ => xs.length - (intOf i).toNat)
  case atStart => exact ⟨0, Nat.zero_le _, rfl, hJ _ _ _ h0 hch, hbW⟩
  case round =>
    obtain ⟨k, hk, rfl, hJs, hnx⟩ := hrel
    by_cases hlt : k < xs.length
    · have l1 : (k : Int) < (xs.length : Int) := by omega
      obtain ⟨m, hm⟩ : ∃ m, (i + k) % xs.length = m := ⟨_, rfl⟩
      have hml : m < xs.length := by rw [← hm]; exact Nat.mod_lt _ (by omega)
      obtain ⟨x, hx⟩ : ∃ x, xs[m] = x := ⟨_, rfl⟩
      have hts : turn xs i (k + 1) = turn xs i k ++ [x] := by rw [turn_succ, hm, List.getElem?_eq_getElem hml, hx]; rfl
      obtain ⟨fn, tmps, assign, body, hy, hR⟩ := hY _ x wr.drew (hJ _ _ _ hJs ((Ch.refl [] wr).drew)) (by rw [turn_len]; exact hlt)
      have g1 := (hnx.cell (p := ⟨b1, 0, none⟩) hb1).trans h1
      have g2 := (hnx.cell (p := ⟨b2, 0, none⟩) hb2).trans h2
      obtain ⟨A2, c2, hv, hle, hcm, hrow⟩ := hat
      injection hv with hA1 hl1 hc1
      subst hA1 hc1
      unfold maxLen at hcm
      obtain ⟨g, o, rfl, hbn, _⟩ := hrow.addr (by omega)
      obtain ⟨c0, c1⟩ := place_cells hrow hml
      rw [hx] at c0 c1
      have d0 := (hnx.cell (p := ⟨g, o + m * 2, none⟩) hbn).trans c0
      have d1 := (hnx.cell (p := ⟨g, o + m * 2 + 1, none⟩) hbn).trans c1
      have q1 : IntKind.i64.wrap ((i : Int) + k) = ((i + k : Nat) : Int) := by rw [IntWalk.i64_in _ (by omega)]; omega
      have q2 : ((i : Int) + k) % (xs.length : Int) = (m : Int) := by rw [← hm, Int.natCast_emod, Int.natCast_add]
      have l2 : (m : Int) < (xs.length : Int) := by omega
      have n0 : ((xs.length : Int) == 0) = false := beq_eq_false_iff_ne.2 (by omega)
      have q5 : (((i + k : Nat)) : Int).tmod (xs.length : Int) = (m : Int) := by rw [← hm]; rfl
      have q6 : (((i + k : Nat)) : Int) % (xs.length : Int) = (m : Int) := by rw [← hm]; rfl
      have q7 : ((i : Int) + k).tmod (xs.length : Int) = (m : Int) := by rw [← hm]; rfl
      have n2 : ¬ xs = [] := fun h => by subst h; simp at hlt
      have n3 : ¬ xs.length = 0 := by omega
      have n4 : xs.isEmpty = false := by cases xs <;> simp_all
      gi_wp2
      gi_region_with (refine hR.mono ?_; rintro e W3 hor; obtain ⟨bt, rfl, hor2⟩ := two_ways hor)
      all_goals
        rcases hor2 with ⟨rfl, hJ3, hk3⟩ | ⟨rfl, hJx3⟩
        · gi_wp2
          go_roundw
          case rel => exact ⟨k + 1, by omega, by go_num, by rw [hts]; exact hJ3, hnx.trans ((Kq.of_ch ((Ch.refl [] wr).drew) (by have := hnx.1; omega)).trans hk3)⟩
          case measure => simp [intOf]; omega
        · gi_wp2
          refine bodyPost_ret (results_none rfl _ _ _) rfl ?_
          exact ⟨⟨_, rfl⟩, i, ⟨hi1, hi2, hi3⟩, .inr ⟨k + 1, by omega, by rw [hts]; exact hJx3⟩⟩
    · obtain rfl : k = xs.length := by omega
      gi_wp2
      go_end0
      exact ⟨⟨_, rfl⟩, i, ⟨hi1, hi2, hi3⟩, .inl ⟨_, rfl, hJs⟩⟩

theorem Ch.grownBy {w w' : World} (h : Ch [] w w') : w.grownBy w' none := ⟨h.os, h.tape, h.output, h.size, fun k hk _ => h.block k hk (by simp)⟩
theorem round_stops (n : Nat) (hn : 1 ≤ n) (b1 b2 n₀ ob : Nat) (v : Value) (xs : List Place) (key : Nat) (hbig : xs.length ≤ 1000000) (w : World)
    (h1 : w.cell? ⟨b1, 0, none⟩ = some v) (h2 : w.cell? ⟨b2, 0, none⟩ = some (vU64 key)) (hat : Kd.place.At w (fun k => k < n₀ ∧ k ≠ ob) v xs) (hb1 : b1 < n₀ ∧ b1 ≠ ob) (hb2 : b2 < n₀ ∧ b2 ≠ ob) (hn0 : n₀ ≤ w.heap.size) :
    SeqStopsK Fence.wide n Try.prog 83 #[vPtr b1, vPtr b2] (fun x : Place => #[vPlace x]) (Kq n₀ ob) (fun ys => ∃ i, First xs key i ∧ ys = turn xs i xs.length) (fun pre => ∃ i k, First xs key i ∧ k ≤ xs.length ∧ pre = turn xs i k) xs.length w := fun l J Jx W hW hJ _ hY h0 => by
  obtain ⟨A, cap, rfl, hc, hm, hrow⟩ := hat
  have hat : Kd.place.At w (fun k => k < n₀ ∧ k ≠ ob) (.slice A xs.length cap) xs := ⟨A, cap, rfl, hc, hm, hrow⟩
  have hatW := hat.move (w' := W) (fun k _ hk => hW.block k hk) hW.size
  refine (round1_in n hn l b1 b2 n₀ ob A cap xs key hbig J Jx hY (fun pre W W' h hc => hJ pre W W' none h hc.grownBy (by simp)) W ((hW.cell (p := ⟨b1, 0, none⟩) (by show b1 < _; have := hb1.1; omega)).trans h1) ((hW.cell (p := ⟨b2, 0, none⟩) (by show b2 < _; have := hb2.1; omega)).trans h2) hatW hb1 hb2 (Nat.le_trans hn0 hW.size) h0).mono ?_
  rintro e W' ⟨he, i, hi, ⟨ys, rfl, hj⟩ | ⟨k, hk, hj⟩⟩
  · exact ⟨he, .inl ⟨_, ⟨i, hi, rfl⟩, hj⟩⟩
  · exact ⟨he, .inr ⟨_, ⟨i, k, hi, hk, rfl⟩, hj⟩⟩
end Go.Proofs.Ytmojbpgabpbacaa
