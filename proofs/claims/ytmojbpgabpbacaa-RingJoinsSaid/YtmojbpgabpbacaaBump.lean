/- Token rows of a join's answer, while the law raises them; ring.Owners of any ring. -/
import Derived.Test.YtmojbpgabpbacaaRefOwn
namespace Go.Proofs.Ytmojbpgabpbacaa
open Go.RowKit

def Ints (w : World) (q len : Nat) : Prop := ∃ cur : Array Value, w.heap[q]? = some (.cells cur 23 (0, 0)) ∧ ∀ i, i < len → ∃ n : Int, cur[i]? = some (.int .u64 n)
theorem Ints.lt {w : World} {q len : Nat} (h : Ints w q len) : q < w.heap.size := by
  obtain ⟨cur, h1, _⟩ := h
  exact (Array.getElem?_eq_some_iff.1 h1).1
theorem Ints.cell {w : World} {q len i : Nat} (h : Ints w q len) (hi : i < len) : ∃ n : Int, w.cell? ⟨q, i, none⟩ = some (.int .u64 n) := by
  obtain ⟨cur, h1, h2⟩ := h
  obtain ⟨n, h3⟩ := h2 i hi
  exact ⟨n, (cell_of_row w q i cur _ (0, 0) h1).trans h3⟩
theorem Ints.frozen {w : World} {q len i : Nat} (h : Ints w q len) : w.frozen? ⟨q, i, none⟩ = false := by
  obtain ⟨cur, h1, h2⟩ := h
  simp [World.frozen?, h1]
theorem Ints.ch {w w' : World} {S : List Nat} {q len : Nat} (h : Ints w q len) (hc : Ch S w w') (hq : q ∉ S) : Ints w' q len := by
  have h0 := h.lt
  obtain ⟨cur, h1, h2⟩ := h
  exact ⟨cur, (hc.block q h0 hq).trans h1, h2⟩
theorem Ints.set_ {w : World} {q len q0 k : Nat} (h : Ints w q len) (n : Int) : Ints (w.setCell ⟨q0, k, none⟩ (.int .u64 n)) q len := by
  by_cases e : q = q0
  · subst e
    obtain ⟨cur, h1, h2⟩ := h
    refine ⟨cur.set! k (.int .u64 n), ?_, fun i hi => ?_⟩
    · simp [World.setCell, Array.getElem?_modify, h1]
    · obtain ⟨m, h3⟩ := h2 i hi
      by_cases e : k = i
      · subst e
        have hl := (Array.getElem?_eq_some_iff.1 h3).1
        exact ⟨n, by simp [hl]⟩
      · exact ⟨m, by simpa [Array.getElem?_setIfInBounds, e] using h3⟩
  · obtain ⟨cur, h1, h2⟩ := h
    exact ⟨cur, (Below.heap_setCell w _ _ q e).trans h1, h2⟩

theorem ownO_parts {e : TypeId} {w : World} {base : Nat} {ok : Nat → Prop} {v : Value} {xs : List Member} (h : Kd.memO.Own e w base ok v xs) :
    (v = .slice none 0 0 ∧ xs = []) ∨ ∃ g cap, v = .slice (some ⟨g, 0, none⟩) xs.length cap ∧ base ≤ g ∧ g < w.heap.size ∧ xs.length ≤ cap ∧ cap ≤ maxLen ∧
      ∀ j x, xs[j]? = some x → ∃ T m, w.cell? ⟨g, j * 4 + 3, none⟩ = some (.slice T x.tokens.length m) ∧ x.tokens.length ≤ m ∧ m ≤ maxLen ∧ (0 < x.tokens.length → ∃ q, T = some ⟨q, 0, none⟩ ∧ ok q ∧ q ≠ g ∧ q < w.heap.size ∧ Ints w q x.tokens.length) := by
  obtain ⟨inner, h1, h2⟩ := h
  rcases h1.2 with ⟨rfl, h3⟩ | ⟨g, cap, cur, rfl, hg, hh, hn, hm, hcs, htake⟩
  · exact .inl ⟨rfl, List.eq_nil_of_length_eq_zero h3⟩
  · refine .inr ⟨g, cap, rfl, hg, (h1.lt g (by simp [Value.ownBlock])).2, hn, hm, fun j x hj => ?_⟩
    obtain ⟨t, hcells, hown, hok⟩ := h2.2 j x hj
    have hc3 := h1.cells (g := g) (by simp [Value.ownBlock]) (j * 4 + 3) t (by
      have h3 : ((inner.drop (j * 4)).take 4)[3]? = some t := by
        have : Kd.memO.sz = 4 := rfl
        rw [this] at hcells
        rw [hcells]; rfl
      rw [List.getElem?_take, if_pos (by omega), List.getElem?_drop] at h3
      exact h3)
    have hadd : (⟨g, 0, none⟩ : Addr).add (j * 4 + 3) = ⟨g, j * 4 + 3, none⟩ := by unfold Addr.add; split <;> simp_all
    rw [hadd] at hc3
    obtain ⟨in2, r1, r2⟩ := hown
    rcases r1.2 with ⟨rfl, h3⟩ | ⟨q, cap2, cur2, rfl, _, hh2, hn2, hm2, hcs2, htake2⟩
    · exact ⟨none, 0, by rw [hc3, h3], by omega, Nat.zero_le _, fun hp => by omega⟩
    · refine ⟨_, cap2, hc3, hn2, hm2, fun _ => ⟨q, rfl, (hok q (by simp [Value.ownBlock])).1, ?_, (Array.getElem?_eq_some_iff.1 hh2).1, cur2, hh2, fun i hi => ?_⟩⟩
      · rintro rfl
        exact (hok q (by simp [Value.ownBlock])).2 (by simp [Value.ownBlock])
      · have h4 := List.getElem?_eq_getElem hi
        obtain ⟨n, hn'⟩ : ∃ n, x.tokens[i] = n := ⟨_, rfl⟩
        have h5 := r2.2 i n (by rw [h4, hn'])
        have h6 : (in2.drop (i * 1)).take 1 = [vU64 n] := h5
        have h7 : in2[i]? = some (vU64 n) := by
          have h8 : ((in2.drop (i * 1)).take 1)[0]? = some (vU64 n) := by rw [h6]; rfl
          rw [List.getElem?_take, if_pos (by omega), List.getElem?_drop] at h8
          simpa using h8
        rw [← htake2, List.getElem?_take] at h7
        split at h7
        · exact ⟨(n : Int), by simpa using h7⟩
        · cases h7

set_option maxRecDepth 100000 in
set_option maxHeartbeats 3200000 in
theorem owners0_w (w : World) (ok : Nat → Prop) (v : Value) (l : List Member) (key : Nat) (n : Int) (hck : chkRing l ≠ 0) (h : Kd.mem.At w ok v l) :
    Calls Try.prog 10 #[v, vU64 key, .int .i64 n] w fun r w' => r = .returned (.slice none 0 0) ∧ Ch [] w w' := by
  refine calls_hide fun K hK => ?_
  have h := h.bound
  have hA := (Ch.refl [] w).alloc (.cells #[.int .i64 n] 3)
  have q0 : (chkRing l != 0) = true := by simp [hck]
  clear hck
  refine (callsIn_wide (n := 8)).1 ?_
  refine callsIn_of_wp_marks Try.func10 rfl trivial ?_ rfl
  simp only [Try.ntmps10, List.size_toArray, List.length_cons, List.length_nil, Nat.reduceAdd, Nat.reduceSub, Array.replicate_succ, Array.replicate_zero, List.push_toArray, List.append_toArray, List.nil_append, List.cons_append]
  refine wpIn_wide.2 ?_
  go_wp2_with (first
    | (go_at_call 38; refine (ringCheck_w _ _ _ _ (h.ch0 hA)).mono ?_; rintro e w1 ⟨rfl, hch1⟩))
  exact ⟨.slice none 0 0, by simp [results, Try.results10, go_sem], hK.out _ _ ⟨rfl, hA.trans0 hch1⟩⟩
/-- ring.Owners of any ring. -/
theorem ownersAll_w (w : World) (ok : Nat → Prop) (v : Value) (l : List Member) (key : Nat) (n : Int) (h : Kd.mem.At w ok v l) :
    Calls Try.prog 10 #[v, vU64 key, .int .i64 n] w fun r w' => ∃ (u : Value) (Z : List Tg) (i : Nat), r = .returned u ∧ (chkRing l = 0 → Sorted (places l) Z ∧ First (pl Z) key i) ∧ Kd.str.At w' (fun k => w.heap.size ≤ k) u (if chkRing l = 0 then picks n (turn (pl Z) i (pl Z).length) else []) ∧ Ch [] w w' := by
  by_cases hc : chkRing l = 0
  · refine (owners_w w ok v l key n hc h).mono ?_
    rintro e w' ⟨u, Z, i, rfl, h1, h2, h3, h4⟩
    exact ⟨u, Z, i, rfl, fun _ => ⟨h1, h2⟩, by rw [if_pos hc]; exact h3.mono (fun k hk => by omega), h4⟩
  · refine (owners0_w w ok v l key n hc h).mono ?_
    rintro e w' ⟨rfl, h4⟩
    exact ⟨_, [], 0, rfl, fun h0 => absurd h0 hc, by rw [if_neg hc]; exact Kd.At.nil _ _ _, h4⟩
end Go.Proofs.Ytmojbpgabpbacaa
