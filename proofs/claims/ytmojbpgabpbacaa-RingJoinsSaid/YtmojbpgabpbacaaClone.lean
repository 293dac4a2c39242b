/- A whole slice as the source of an append; slices.Clone. -/
import Derived.Test.YtmojbpgabpbacaaProg
import Derived.Test.YtmojbpgabpbacaaSrcs
import Derived.Lib.SliceRun
namespace Go.Proofs.Ytmojbpgabpbacaa
open Go.RowKit

namespace Kd
variable {α : Type} {d : Kd α} {w : World} {ok : Nat → Prop}
theorem Row.cells : ∀ (xs : List α) (b o : Nat), d.Row w ok (some ⟨b, o, none⟩) xs → ∃ news, Reps (d.K w ok) d.sz xs news ∧ (∀ u ∈ news, u.oneCell' = true) ∧ ∀ j u, news[j]? = some u → w.cell? ⟨b, o + j, none⟩ = some u := by
  intro xs
  induction xs with
  | nil => intro b o _; exact ⟨[], Reps.nil _ _, by simp, by simp⟩
  | cons x r ih =>
    intro b o h
    obtain ⟨cs, hk, hc⟩ := h.elem' (k := 0) (by simp)
    have hl := d.len hk
    have h1 := h.drop 1
    rw [Nat.one_mul] at h1
    obtain ⟨news, h2, h3, h4⟩ := ih b (o + d.sz) h1
    have hx : Reps (d.K w ok) d.sz [x] cs := by
      have := (Reps.nil (d.K w ok) d.sz).snoc hk hl
      simpa using this
    refine ⟨cs ++ news, hx.append h2, fun u hu => ?_, fun j u hj => ?_⟩
    · rcases List.mem_append.1 hu with hu | hu
      · exact d.one hk u hu
      · exact h3 u hu
    · by_cases hjl : j < cs.length
      · rw [List.getElem?_append_left hjl] at hj
        have := hc j u hj
        simpa using this
      · rw [List.getElem?_append_right (by omega)] at hj
        have := h4 _ u hj
        rw [hl] at this
        rwa [show o + d.sz + (j - d.sz) = o + j by omega] at this
/-- What a slice that is read yields to an append. -/
theorem At.src {P : Program} {tx e' : TypeId} (hk : P.underlying tx = some (.slice e')) {v : Value} {xs : List α} (h : d.At w ok v xs) : ∃ news, Src P d.sz tx v xs.length news w ∧ Reps (d.K w ok) d.sz xs news := by
  obtain ⟨A, c, rfl, h1, h2, h3⟩ := h
  by_cases hl : 0 < xs.length
  · obtain ⟨b, o, rfl, _, _⟩ := h3.addr hl
    obtain ⟨news, h4, h5, h6⟩ := Row.cells xs b o h3
    exact ⟨news, Src.ofSlice w hk _ _ _ news h4.1 (fun j u hj => by rw [Addr.add_lit]; exact h6 j u hj) h5, h4⟩
  · obtain rfl : xs = [] := List.eq_nil_of_length_eq_zero (by omega)
    cases A with
    | none => exact ⟨[], Src.ofNil w hk c, Reps.nil _ _⟩
    | some a => exact ⟨[], Src.ofSlice w hk a 0 c [] (by simp) (by simp) (by simp), Reps.nil _ _⟩
/-- []T{}. -/
theorem Own.empty (d : Kd α) (e : TypeId) (w : World) {base : Nat} (hb : base ≤ w.heap.size) (ok : Nat → Prop) : d.Own e (w.alloc (.cells #[] e)) base ok (.slice (some ⟨w.heap.size, 0, none⟩) 0 0) [] :=
  ⟨[], ⟨by simp, .inr ⟨w.heap.size, 0, #[], rfl, hb, heap_alloc_new w _, Nat.le_refl _, Nat.zero_le _, by simp, by simp⟩⟩, Reps.nil _ _⟩
end Kd

theorem Try.infoU64 : (Try.prog.info? 23).map (fun i => (i.zero, i.size, i.bytes)) = some (some (.int .u64 0), 1, 8) := by kernel_rfl
set_option maxRecDepth 100000 in
set_option maxHeartbeats 1600000 in
theorem cloneU64_w (w : World) (ok : Nat → Prop) (v : Value) (xs : List Nat) (hbig : xs.length * 8 ≤ 140737488355328) (h : Kd.u64.At w ok v xs) :
    Calls Try.prog 87 #[v] w fun r w' => ∃ v', r = .returned v' ∧ Kd.u64.Own 23 w' w.heap.size (fun k => ok k ∧ k < w.heap.size) v' xs ∧ Ch [] w w' := by
  refine calls_hide fun K hK => ?_
  have HB := hide hbig
  clear hbig
  have hb := h.bound
  obtain ⟨A, c, rfl, hc, hm, hrow⟩ := h
  unfold maxLen at hm
  have hnl := fun (W : World) (a : Option Addr) (n c n' c' : Nat) => Lib.run_eql_slice_nil (P := Try.prog) W 29 23 a n c n' c' Try.underlying29
  cases A with
  | none =>
    obtain rfl : xs = [] := by
      by_cases hl : 0 < xs.length
      · obtain ⟨b, o, e, _⟩ := hrow.addr hl
        cases e
      · exact List.eq_nil_of_length_eq_zero (by omega)
    go_enter Try.func87, Try.ntmps87
    go_wp2
    exact hK.out _ _ ⟨_, rfl, Kd.Own.nil _ _ _ _ _, Ch.refl _ _⟩
  | some a =>
    have hch := (Ch.refl [] w).alloc (.cells #[] 23)
    obtain ⟨news, hsrc, hreps⟩ := (hb.ch0 hch).src (P := Try.prog) Try.underlying29
    have HR := hide (hreps.imp fun p cs hk => Kd.u64.mono (ok' := fun k => (ok k ∧ k < w.heap.size) ∧ some k ≠ (Value.slice (some ⟨w.heap.size, 0, none⟩) 0 0).ownBlock) (fun k hk => ⟨hk, by simp [Value.ownBlock]; omega⟩) hk)
    clear hreps
    go_enter Try.func87, Try.ntmps87
    go_wp2_with (first
      | (at_builtin; refine Kd.wpList_append_src Kd.u64 (base := w.heap.size) rfl (.tmp 5) (.tmp 6) 29 29 23 _ 8 rfl Try.underlying29 Try.infoU64 rfl (by decide) (by decide) (v := .slice (some ⟨w.heap.size, 0, none⟩) 0 0) (xs := []) (ps := xs) (news := news) rfl rfl hsrc HR.out (Kd.Own.empty Kd.u64 23 w (Nat.le_refl _) _) (by simp) (by simpa using HB.out) ?_; intro v1 w7 hown7 hch7 hat7; obtain ⟨A7, c7, rfl⟩ := hown7.form))
    exact hK.out _ _ ⟨_, rfl, hown7, hch.trans hch7 (fun t ht => .inr (by simpa [Value.ownBlock, eq_comm] using Nat.le_of_eq (by simpa [Value.ownBlock, eq_comm] using ht)))⟩
end Go.Proofs.Ytmojbpgabpbacaa
