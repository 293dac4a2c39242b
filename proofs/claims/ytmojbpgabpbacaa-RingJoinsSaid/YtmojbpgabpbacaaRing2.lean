/- Package ring: copied, counts. -/
import Derived.Test.YtmojbpgabpbacaaJoinPure
import Derived.Test.YtmojbpgabpbacaaClone
import Derived.Test.YtmojbpgabpbacaaSort0
namespace Go.Proofs.Ytmojbpgabpbacaa
open Go.RowKit

theorem Kd.Own.low {α : Type} {d : Kd α} {e : TypeId} {w : World} {base base' : Nat} {ok : Nat → Prop} {v : Value} {xs : List α} (h : d.Own e w base ok v xs) (hb : base' ≤ base) : d.Own e w base' ok v xs := by
  obtain ⟨inner, h1, h2⟩ := h
  refine ⟨inner, ⟨h1.1, ?_⟩, h2⟩
  rcases h1.2 with h3 | ⟨g, cap, cur, rfl, hg, r⟩
  · exact .inl h3
  · exact .inr ⟨g, cap, cur, rfl, Nat.le_trans hb hg, r⟩
theorem Kd.u64_own_ch {e : TypeId} {w w' : World} {base : Nat} {ok ok' : Nat → Prop} {v : Value} {xs : List Nat} {S : List Nat} (h : Kd.u64.Own e w base ok v xs) (hc : Ch S w w') (hv : ∀ k, v.ownBlock = some k → k ∉ S) : Kd.u64.Own e w' base ok' v xs := by
  obtain ⟨inner, h1, h2⟩ := h
  exact ⟨inner, Kd.ownsRow_move h1 (fun k hk => hc.block k (h1.lt k hk).2 (hv k hk)), h2⟩

set_option maxRecDepth 100000 in
set_option maxHeartbeats 1600000 in
theorem copied_w (w : World) (ok : Nat → Prop) (x : Member) (t : Value) (hl : x.tokens.length ≤ 16) (ht : Kd.u64.At w ok t x.tokens) :
    Calls Try.prog 44 #[vMem x t] w fun r w' => ∃ t', r = .returned (vMem x t') ∧ Kd.u64.Own 23 w' w.heap.size (fun _ => True) t' x.tokens ∧ Ch [] w w' := by
  refine calls_hide fun K hK => ?_
  have hcA := (Ch.refl [] w).alloc (.cells #[vStr x.name, vU64 x.epoch, vByte x.state, t] 31)
  have hcB := hcA.alloc (.cells #[vStr [], vU64 0, vByte 0, .slice none 0 0] 31)
  have hbA := (Blk.new w 31 [vStr x.name, vU64 x.epoch, vByte x.state, t]).alloc (.cells #[vStr [], vU64 0, vByte 0, .slice none 0 0] 31)
  have hbB := Blk.new (w.alloc (.cells #[vStr x.name, vU64 x.epoch, vByte x.state, t] 31)) 31 [vStr [], vU64 0, vByte 0, .slice none 0 0]
  have ht1 := ht.bound.ch0 hcB
  rw [World.size_alloc] at hbB
  obtain ⟨T, m, rfl, h1, h2, h3⟩ := ht
  go_enter Try.func44, Try.ntmps44
  go_wp2_with (first
    | (go_at_call 87; refine (cloneU64_w _ _ _ _ (by omega) ht1).mono ?_; rintro e w1 ⟨t', rfl, hown, hch⟩; obtain ⟨T', m', rfl⟩ := hown.form; have kA := hbA.ch0 hch; have kB := hbB.ch0 hch; have a0 := kA.cell 0; have a1 := kA.cell 1; have a2 := kA.cell 2; have a3 := kA.cell 3; have fa := kA.frozen 3; have b0 := kB.cell 0; have b1 := kB.cell 1; have b2 := kB.cell 2; have b3 := kB.cell 3; have f0 := kB.frozen 0; have f1 := kB.frozen 1; have f2 := kB.frozen 2; have f3 := kB.frozen 3))
  refine bodyPost_ret (v := vMem x (.slice T' x.tokens.length m')) (by simp [results, Try.results44, go_sem, b0, b1, b2, b3]) rfl ?_
  refine hK.out _ _ ⟨_, rfl, ?_, ?_⟩
  · have hb := hown.block
    refine Kd.u64_own_ch (hown.low (by simp; omega)) (S := [w.heap.size, w.heap.size + 1]) (((((((Ch.refl _ _).setCell (by simp) _).setCell (by simp) _).setCell (by simp) _).setCell (by simp) _).setCell (by simp) _)) (fun k hk hm => ?_)
    have := (hb k hk).1
    simp at this hm
    omega
  · exact ((((((hcB.trans0 hch).setCell (.inr (by simp)) _).setCell (.inr (by simp)) _).setCell (.inr (by simp)) _).setCell (.inr (by simp)) _).setCell (.inr (by simp)) _)

theorem eRest_len {x : Member} (hl : x.tokens.length ≤ 16) : (eRest x).length ≤ 200 := by
  have h1 := flatten_len eFix 8 x.tokens (fun t _ => Nat.le_of_eq (eFix_len t))
  have h3 := eVar_le' (n := x.tokens.length) (by omega)
  simp only [eRest, List.length_append, List.length_singleton]
  omega
set_option maxRecDepth 100000 in
set_option maxHeartbeats 1600000 in
theorem bytes_w (w : World) (ok : Nat → Prop) (x : Member) (t : Value) (hx : memNums x) (hl : x.tokens.length ≤ 16) (ht : Kd.u64.At w ok t x.tokens) :
    Calls Try.prog 88 #[vMem x t] w fun r w' => r = .returned (vStr (eRest x)) ∧ Ch [] w w' := by
  refine calls_hide fun K hK => ?_
  have hcA := (Ch.refl [] w).alloc (.cells #[vStr x.name, vU64 x.epoch, vByte x.state, t] 31)
  have hbA := Blk.new w 31 [vStr x.name, vU64 x.epoch, vByte x.state, t]
  have ht1 := ht.bound.ch0 hcA
  have hel := eRest_len hl
  obtain ⟨T, m, rfl, h1, h2, h3⟩ := ht
  go_enter Try.func88, Try.ntmps88
  go_wp2_with (first
    | (go_at_call 48; refine (penNew_w _ 65536 (by decide)).mono ?_; rintro e w2 ⟨b, rfl, hb, hp, hch2⟩; have kA := hbA.ch0 hch2; have a0 := kA.cell 0; have a1 := kA.cell 1; have a2 := kA.cell 2; have a3 := kA.cell 3; have hA2 := hcA.trans0 hch2)
    | (go_at_call 79; refine (ringRest_w _ _ _ _ _ _ _ x T m hx hl hp (ht1.ch0 hch2) (fun k hk => by have := hk.2; simp at hb ⊢; omega)).mono ?_; rintro e w6 ⟨rfl, R6, o6, e6, hW6⟩; obtain ⟨rfl, rfl⟩ := Wr.full hW6 (by omega))
    | (go_at_call 50; refine (penEnd_w _ _ _ _ _ _ hW6.pen).mono ?_; rintro e w4 ⟨rfl, rfl⟩))
  have hbw : w.heap.size ≤ b := by simp at hb; omega
  exact hK.out _ _ ⟨by simp, hA2.trans hW6.ch (fun t ht => .inr (by rw [List.mem_singleton.1 ht]; exact hbw))⟩

/-- The program's test. -/
def cntB (x y : Member) : Prop := y.epoch < x.epoch ∨ x.epoch = y.epoch ∧ below (eRest y) (eRest x) = true
instance (x y : Member) : Decidable (cntB x y) := by unfold cntB; infer_instance
set_option maxRecDepth 100000 in
set_option maxHeartbeats 3200000 in
theorem counts_w (w : World) (ok : Nat → Prop) (x y : Member) (t s : Value) (hx : memNums x) (hy : memNums y) (hlx : x.tokens.length ≤ 16) (hly : y.tokens.length ≤ 16) (ht : Kd.u64.At w ok t x.tokens) (hs : Kd.u64.At w ok s y.tokens) :
    Calls Try.prog 45 #[vMem x t, vMem y s] w fun r w' => r = .returned (if cntB x y then vMem x t else vMem y s) ∧ Ch [] w w' := by
  refine calls_hide fun K hK => ?_
  have hcA := (Ch.refl [] w).alloc (.cells #[vStr x.name, vU64 x.epoch, vByte x.state, t] 31)
  have hcB := hcA.alloc (.cells #[vStr y.name, vU64 y.epoch, vByte y.state, s] 31)
  have hcC := hcB.alloc (.cells #[vStr [], vU64 0, vByte 0, .slice none 0 0] 31)
  have htb := ht.bound
  have hsb := hs.bound
  obtain ⟨T, m, rfl, h1, h2, h3⟩ := ht
  obtain ⟨S, m', rfl, h1', h2', h3'⟩ := hs
  have hx1 := hx.1
  have hy1 := hy.1
  by_cases hgt : y.epoch < x.epoch
  · have hc : cntB x y := .inl hgt
    have q1 : (y.epoch : Int) < (x.epoch : Int) := by omega
    have HC := hide hc
    clear hc
    clear hx1 hy1
    go_enter Try.func45, Try.ntmps45
    go_wp2
    go_quiet (fail)
    go_wp2
    refine bodyPost_ret (v := vMem x (.slice T (x).tokens.length m)) (by simp [results, Try.results45, go_sem]) rfl ?_
    refine hK.out _ _ ⟨by rw [if_pos HC.out], ?_⟩
    exact ((((((hcC.drewN _).setCell (.inr (by first | (simp; done) | (simp; omega))) _).setCell (.inr (by first | (simp; done) | (simp; omega))) _).setCell (.inr (by first | (simp; done) | (simp; omega))) _).setCell (.inr (by first | (simp; done) | (simp; omega))) _))
  by_cases heq : x.epoch = y.epoch
  · have hw3 : (((w.alloc (.cells #[vStr x.name, vU64 x.epoch, vByte x.state, .slice T x.tokens.length m] 31)).alloc (.cells #[vStr y.name, vU64 y.epoch, vByte y.state, .slice S y.tokens.length m'] 31)).alloc (.cells #[vStr [], vU64 0, vByte 0, .slice none 0 0] 31)).heap.size = w.heap.size + 3 := by simp
    have kx := (((Blk.new w 31 [vStr x.name, vU64 x.epoch, vByte x.state, .slice T x.tokens.length m]).alloc (.cells #[vStr y.name, vU64 y.epoch, vByte y.state, .slice S y.tokens.length m'] 31)).alloc (.cells #[vStr [], vU64 0, vByte 0, .slice none 0 0] 31))
    have ky := ((Blk.new (w.alloc (.cells #[vStr x.name, vU64 x.epoch, vByte x.state, .slice T x.tokens.length m] 31)) 31 [vStr y.name, vU64 y.epoch, vByte y.state, .slice S y.tokens.length m']).alloc (.cells #[vStr [], vU64 0, vByte 0, .slice none 0 0] 31))
    have kz := Blk.new ((w.alloc (.cells #[vStr x.name, vU64 x.epoch, vByte x.state, .slice T x.tokens.length m] 31)).alloc (.cells #[vStr y.name, vU64 y.epoch, vByte y.state, .slice S y.tokens.length m'] 31)) 31 [vStr [], vU64 0, vByte 0, .slice none 0 0]
    rw [World.size_alloc] at ky
    rw [World.size_alloc, World.size_alloc] at kz
    obtain ⟨W3, hW3⟩ : ∃ W3, (((w.alloc (.cells #[vStr x.name, vU64 x.epoch, vByte x.state, .slice T x.tokens.length m] 31)).alloc (.cells #[vStr y.name, vU64 y.epoch, vByte y.state, .slice S y.tokens.length m'] 31)).alloc (.cells #[vStr [], vU64 0, vByte 0, .slice none 0 0] 31)) = W3 := ⟨_, rfl⟩
    have hc3 : Ch [] w W3 := hW3 ▸ hcC
    have hW3' : (((w.alloc (.cells #[vStr x.name, vU64 x.epoch, vByte x.state, .slice T x.tokens.length m] 31)).alloc (.cells #[vStr y.name, vU64 y.epoch, vByte y.state, .slice S y.tokens.length m'] 31)).alloc (.cells #[.string ⟨#[]⟩, .int .u64 0, .int .u8 0, .slice none 0 0] 31)) = W3 := hW3
    have HW := hide hW3'
    clear hW3'
    have HX := fun p : Later W3 => bytes_w p.world _ x _ hx hlx ((htb.ch0 hc3).ch0 p.ch)
    have HY := fun p : Later W3 => bytes_w p.world _ y _ hy hly ((hsb.ch0 hc3).ch0 p.ch)
    have x0 := fun p : Later W3 => (show p.world.cell? ⟨w.heap.size, 0, none⟩ = some (vStr x.name) from ((hW3 ▸ kx).ch0 p.ch).cell 0)
    have x1 := fun p : Later W3 => (show p.world.cell? ⟨w.heap.size, 1, none⟩ = some (vU64 x.epoch) from ((hW3 ▸ kx).ch0 p.ch).cell 1)
    have x2 := fun p : Later W3 => (show p.world.cell? ⟨w.heap.size, 2, none⟩ = some (vByte x.state) from ((hW3 ▸ kx).ch0 p.ch).cell 2)
    have x3 := fun p : Later W3 => (show p.world.cell? ⟨w.heap.size, 3, none⟩ = some (.slice T x.tokens.length m) from ((hW3 ▸ kx).ch0 p.ch).cell 3)
    have y0 := fun p : Later W3 => (show p.world.cell? ⟨w.heap.size + 1, 0, none⟩ = some (vStr y.name) from ((hW3 ▸ ky).ch0 p.ch).cell 0)
    have y1 := fun p : Later W3 => (show p.world.cell? ⟨w.heap.size + 1, 1, none⟩ = some (vU64 y.epoch) from ((hW3 ▸ ky).ch0 p.ch).cell 1)
    have y2 := fun p : Later W3 => (show p.world.cell? ⟨w.heap.size + 1, 2, none⟩ = some (vByte y.state) from ((hW3 ▸ ky).ch0 p.ch).cell 2)
    have y3 := fun p : Later W3 => (show p.world.cell? ⟨w.heap.size + 1, 3, none⟩ = some (.slice S y.tokens.length m') from ((hW3 ▸ ky).ch0 p.ch).cell 3)
    have q1 : decide ((y.epoch : Int) < (x.epoch : Int)) = false := decide_eq_false (by omega)
    have q2 : ((x.epoch : Int) == (y.epoch : Int)) = true := by simp [heq]
    have q3 : decide (y.epoch < x.epoch) = false := decide_eq_false (by omega)
    have q4 : (x.epoch == y.epoch) = true := by simp [heq]
    have HEQ := hide heq
    have HKZ := hide kz
    have HKX := hide kx
    have HKY := hide ky
    rw [hW3] at HKZ HKX HKY
    clear hgt heq hx1 hy1 kx ky kz hW3 hcA hcB hcC hw3
    rcases hb : below (eRest y) (eRest x) with _ | _
    · have HC := hide (show ¬ cntB x y from fun h => by rcases h with h | h; (have := HEQ.out; omega); (rw [h.2] at hb; cases hb))
      go_enter Try.func45, Try.ntmps45
      go_wp2
      rw [HW.out]
      refine wp_region_later (by kernel_rfl) (by kernel_rfl) ?_
      (repeat (go_big_quiet_step (first | (go_at_call 88; first | (with_reducible exact Calls.later (HX _)) | (with_reducible exact Calls.later (HY _))))))
      refine wpQuiet_nil ?_; intro _ hw'; obtain ⟨⟨wq, hwz⟩, hw''⟩ := hw'; subst hw''; try dsimp only
      rename_i wz
      have hz := HKZ.out.ch0 hwz
      have z0 := hz.cell 0
      have z1 := hz.cell 1
      have z2 := hz.cell 2
      have z3 := hz.cell 3
      have g0 := hz.frozen 0
      have g1 := hz.frozen 1
      have g2 := hz.frozen 2
      have g3 := hz.frozen 3
      have h0 := (HKY.out.ch0 hwz).cell 0
      have h1 := (HKY.out.ch0 hwz).cell 1
      have h2 := (HKY.out.ch0 hwz).cell 2
      have h3 := (HKY.out.ch0 hwz).cell 3
      go_wp2
      refine bodyPost_ret (v := vMem y (.slice S (y).tokens.length m')) (by simp [results, Try.results45, go_sem, z0, z1, z2, z3]) rfl ?_
      refine hK.out _ _ ⟨by rw [if_neg HC.out], ?_⟩
      exact (((((hc3.trans0 hwz).setCell (.inr (by first | (simp; done) | (simp; omega))) _).setCell (.inr (by first | (simp; done) | (simp; omega))) _).setCell (.inr (by first | (simp; done) | (simp; omega))) _).setCell (.inr (by first | (simp; done) | (simp; omega))) _)
    · have HC := hide (show cntB x y from .inr ⟨HEQ.out, hb⟩)
      go_enter Try.func45, Try.ntmps45
      go_wp2
      rw [HW.out]
      refine wp_region_later (by kernel_rfl) (by kernel_rfl) ?_
      (repeat (go_big_quiet_step (first | (go_at_call 88; first | (with_reducible exact Calls.later (HX _)) | (with_reducible exact Calls.later (HY _))))))
      refine wpQuiet_nil ?_; intro _ hw'; obtain ⟨⟨wq, hwz⟩, hw''⟩ := hw'; subst hw''; try dsimp only
      rename_i wz
      have hz := HKZ.out.ch0 hwz
      have z0 := hz.cell 0
      have z1 := hz.cell 1
      have z2 := hz.cell 2
      have z3 := hz.cell 3
      have g0 := hz.frozen 0
      have g1 := hz.frozen 1
      have g2 := hz.frozen 2
      have g3 := hz.frozen 3
      have h0 := (HKX.out.ch0 hwz).cell 0
      have h1 := (HKX.out.ch0 hwz).cell 1
      have h2 := (HKX.out.ch0 hwz).cell 2
      have h3 := (HKX.out.ch0 hwz).cell 3
      go_wp2
      refine bodyPost_ret (v := vMem x (.slice T (x).tokens.length m)) (by simp [results, Try.results45, go_sem, z0, z1, z2, z3]) rfl ?_
      refine hK.out _ _ ⟨by rw [if_pos HC.out], ?_⟩
      exact (((((hc3.trans0 hwz).setCell (.inr (by first | (simp; done) | (simp; omega))) _).setCell (.inr (by first | (simp; done) | (simp; omega))) _).setCell (.inr (by first | (simp; done) | (simp; omega))) _).setCell (.inr (by first | (simp; done) | (simp; omega))) _)
  · have hc : ¬ cntB x y := by unfold cntB; omega
    have q1 : decide ((y.epoch : Int) < (x.epoch : Int)) = false := decide_eq_false (by omega)
    have q2 : ((x.epoch : Int) == (y.epoch : Int)) = false := by simp; omega
    have HC := hide hc
    clear hc
    clear hx1 hy1
    go_enter Try.func45, Try.ntmps45
    go_wp2
    go_quiet (fail)
    go_wp2
    refine bodyPost_ret (v := vMem y (.slice S (y).tokens.length m')) (by simp [results, Try.results45, go_sem]) rfl ?_
    refine hK.out _ _ ⟨by rw [if_neg HC.out], ?_⟩
    exact ((((((hcC.drewN _).setCell (.inr (by first | (simp; done) | (simp; omega))) _).setCell (.inr (by first | (simp; done) | (simp; omega))) _).setCell (.inr (by first | (simp; done) | (simp; omega))) _).setCell (.inr (by first | (simp; done) | (simp; omega))) _))
end Go.Proofs.Ytmojbpgabpbacaa
