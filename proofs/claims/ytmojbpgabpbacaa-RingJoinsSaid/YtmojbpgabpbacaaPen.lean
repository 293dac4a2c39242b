/- Package pen: its block in memory, and what its methods do. -/
import Derived.Test.YtmojbpgabpbacaaCursor
import Derived.Test.YtmojbpgabpbacaaSrcs
namespace Go.Proofs.Ytmojbpgabpbacaa
open Go.RowKit

theorem Kd.u8_own_ch {e : TypeId} {w w' : World} {base : Nat} {ok : Nat → Prop} {v : Value} {xs : Bytes} {S : List Nat} (h : Kd.u8.Own e w base ok v xs) (hc : Ch S w w') (hv : ∀ k, v.ownBlock = some k → k ∉ S) : Kd.u8.Own e w' base ok v xs := by
  obtain ⟨inner, h1, h2⟩ := h
  exact ⟨inner, Kd.ownsRow_move h1 (fun k hk => hc.block k (h1.lt k hk).2 (hv k hk)), h2⟩
/-- A pen of m bytes at most; R: its row's block. -/
def Pen (w : World) (b m : Nat) (R : List Nat) (out : Bytes) (e : Int) : Prop :=
  ∃ v, Blk w b 161 [v, vInt m, vErr e] ∧ Kd.u8.Own 5 w 0 (fun _ => True) v out ∧ R = v.ownBlock.toList ∧ b ∉ R ∧ out.length ≤ m ∧ m ≤ 1000000
/-- What is written is t, and error 3 where there is no room. -/
def Put (m : Nat) (out : Bytes) (e : Int) (t out' : Bytes) (e' : Int) : Prop := (e ≠ 0 → e' = e) ∧ (e = 0 → (out.length + t.length ≤ m → out' = out ++ t ∧ e' = 0) ∧ (m < out.length + t.length → e' = 3))
structure Wr (w w' : World) (b m : Nat) (R : List Nat) (out : Bytes) (e : Int) (t : Bytes) (R' : List Nat) (out' : Bytes) (e' : Int) : Prop where
  pen : Pen w' b m R' out' e'
  ch : Ch (b :: R) w w'
  own : ∀ g ∈ R', g ∈ R ∨ w.heap.size ≤ g
  put : Put m out e t out' e'
section
variable {w w' w1 w2 : World} {b m : Nat} {R R1 R2 R' : List Nat} {out out1 out2 out' t u : Bytes} {e e1 e2 e' : Int}
theorem Pen.lt (h : Pen w b m R out e) : b < w.heap.size := by
  obtain ⟨v, h1, _⟩ := h
  exact h1.lt
theorem Pen.rowlt (h : Pen w b m R out e) : ∀ g ∈ R, g < w.heap.size := by
  obtain ⟨v, h1, h2, rfl, _⟩ := h
  exact fun g hg => (h2.block g (by simpa using hg)).2
theorem Pen.len (h : Pen w b m R out e) : out.length ≤ m := by
  obtain ⟨v, h1, h2, _, _, h3, _⟩ := h
  exact h3
theorem Pen.ch {S : List Nat} (h : Pen w b m R out e) (hc : Ch S w w') (hb : b ∉ S) (hR : ∀ g ∈ R, g ∉ S) : Pen w' b m R out e := by
  obtain ⟨v, h1, h2, rfl, h4, h5⟩ := h
  exact ⟨v, h1.ch hc hb, Kd.u8_own_ch h2 hc (fun k hk => hR k (by simp [hk])), rfl, h4, h5⟩
theorem Pen.ch0 (h : Pen w b m R out e) (hc : Ch [] w w') : Pen w' b m R out e := h.ch hc (by simp) (by simp)
theorem Pen.drewN (h : Pen w b m R out e) (n : Nat) : Pen (w.drewN n) b m R out e := h.ch0 ((Ch.refl _ _).drewN n)
theorem Pen.setCell (h : Pen w b m R out e) {p : Addr} (hb : b ≠ p.block) (hR : ∀ g ∈ R, g ≠ p.block) (x : Value) : Pen (w.setCell p x) b m R out e :=
  h.ch ((Ch.refl [p.block] w).setCell (by simp) x) (by simpa using hb) (by simpa using hR)
theorem Put.nil (hl : out.length ≤ m) : Put m out e [] out e := ⟨fun _ => rfl, fun h => ⟨fun _ => ⟨by simp, h⟩, fun h1 => absurd h1 (by simp; omega)⟩⟩
theorem Put.seq (h : Put m out e t out1 e1) (k : Put m out1 e1 u out2 e2) : Put m out e (t ++ u) out2 e2 := by
  refine ⟨fun h1 => (k.1 (by rw [h.1 h1]; exact h1)).trans (h.1 h1), fun h0 => ?_⟩
  have h1 := h.2 h0
  rw [List.length_append]
  by_cases hl : out.length + t.length ≤ m
  · obtain ⟨rfl, h3⟩ := h1.1 hl
    have h4 := k.2 h3
    rw [List.length_append] at h4
    refine ⟨fun h5 => ?_, fun h5 => h4.2 (by omega)⟩
    obtain ⟨rfl, h6⟩ := h4.1 (by omega)
    exact ⟨by rw [List.append_assoc], h6⟩
  · have h3 := h1.2 (by omega)
    exact ⟨fun h5 => absurd h5 (by omega), fun _ => (k.1 (by rw [h3]; decide)).trans h3⟩
/-- Once there is an error, whatever else was to be written. -/
theorem Put.fail (h : Put m out e t out1 e1) (he : e1 ≠ 0) (u : Bytes) : Put m out e (t ++ u) out1 e1 := h.seq ⟨fun _ => rfl, fun h0 => absurd h0 he⟩
theorem Put.elder (he : e ≠ 0) (t : Bytes) : Put m out e t out e := ⟨fun _ => rfl, fun h0 => absurd h0 he⟩
theorem Put.full (he : e = 0) (hl : m < out.length + t.length) : Put m out e t out 3 := ⟨fun h => absurd he h, fun _ => ⟨fun h => absurd h (by omega), fun _ => rfl⟩⟩
theorem Wr.refl (h : Pen w b m R out e) : Wr w w b m R out e [] R out e := ⟨h, Ch.refl _ _, fun _ hg => .inl hg, Put.nil h.len⟩
theorem Wr.seq (h : Wr w w1 b m R out e t R1 out1 e1) (k : Wr w1 w2 b m R1 out1 e1 u R2 out2 e2) : Wr w w2 b m R out e (t ++ u) R2 out2 e2 :=
  ⟨k.pen, h.ch.trans k.ch (fun g hg => by
      rcases List.mem_cons.1 hg with rfl | hg
      · exact .inl (by simp)
      · rcases h.own g hg with h1 | h1
        · exact .inl (by simp [h1])
        · exact .inr h1),
    fun g hg => by
      rcases k.own g hg with h1 | h1
      · exact h.own g h1
      · exact .inr (Nat.le_trans h.ch.size h1), h.put.seq k.put⟩
theorem Wr.seq' {tu : Bytes} (h : Wr w w1 b m R out e t R1 out1 e1) (k : Wr w1 w2 b m R1 out1 e1 u R2 out2 e2) (ht : tu = t ++ u) : Wr w w2 b m R out e tu R2 out2 e2 := ht ▸ h.seq k
theorem Wr.pre (h : Ch [] w w1) (k : Wr w1 w2 b m R out e u R2 out2 e2) : Wr w w2 b m R out e u R2 out2 e2 :=
  ⟨k.pen, (h.mono (T := b :: R) (by simp)).trans k.ch (fun _ hg => .inl hg), fun g hg => by
      rcases k.own g hg with h1 | h1
      · exact .inl h1
      · exact .inr (Nat.le_trans h.size h1), k.put⟩
theorem Wr.post (k : Wr w w1 b m R out e u R2 out2 e2) (h : Ch [] w1 w2) : Wr w w2 b m R out e u R2 out2 e2 := ⟨k.pen.ch0 h, k.ch.trans0 h, k.own, k.put⟩
theorem Wr.fail (h : Wr w w1 b m R out e t R1 out1 e1) (he : e1 ≠ 0) (u : Bytes) : Wr w w1 b m R out e (t ++ u) R1 out1 e1 := ⟨h.pen, h.ch, h.own, h.put.fail he u⟩
/-- A block that isn't the pen's stays so. -/
theorem Wr.apart (h : Wr w w1 b m R out e t R1 out1 e1) {g : Nat} (hg : g ∉ b :: R) (hl : g < w.heap.size) : g ∉ b :: R1 := fun hm => by
  rcases List.mem_cons.1 hm with rfl | hm
  · exact hg (by simp)
  · rcases h.own g hm with h1 | h1
    · exact hg (by simp [h1])
    · omega
end

theorem room_ne {e e' : Int} (h : e' = if e = 0 then 3 else e) : e' ≠ 0 := by
  rw [h]
  split
  · decide
  · assumption
theorem Pen.refused {w w' : World} {b m : Nat} {R : List Nat} {out t : Bytes} {e e' : Int} (hp : Pen w' b m R out e') (h : e' = if e = 0 then 3 else e) (hl : ¬ (e = 0 ∧ out.length + t.length ≤ m)) (hch : Ch [b] w w') : Wr w w' b m R out e t R out e' :=
  ⟨hp, hch.mono (by simp), fun _ h => .inl h, by
    rw [h]
    split
    · rename_i h0
      exact Put.full h0 (by have := fun h => hl ⟨h0, h⟩; omega)
    · rename_i h0
      exact Put.elder h0 _⟩

set_option maxHeartbeats 400000 in
theorem penNew_w (w : World) (m : Nat) (hm : m ≤ 1000000) :
    Calls Try.prog 48 #[vInt m] w fun r w' => ∃ b, r = .returned (vPtr b) ∧ w.heap.size ≤ b ∧ Pen w' b m [] [] 0 ∧ Ch [] w w' := by
  refine calls_hide fun K hK => ?_
  have q : decide ((m : Int) < 0) = false := decide_eq_false (by omega)
  go_enter Try.func48, Try.ntmps48
  go_wp2
  exact hK.out _ _ ⟨w.heap.size, rfl, Nat.le_refl _, ⟨_, Blk.new w _ [.slice none 0 0, vInt m, vErr 0], Kd.Own.nil _ _ _ _ _, rfl, by simp, Nat.zero_le _, hm⟩, (Ch.refl _ _).alloc _⟩

set_option maxHeartbeats 400000 in
theorem penErr_w (w : World) (b m : Nat) (R : List Nat) (out : Bytes) (e : Int) (h : Pen w b m R out e) :
    Calls Try.prog 96 #[vPtr b] w fun r w' => r = .returned (vErr e) ∧ w = w' := by
  refine calls_hide fun K hK => ?_
  obtain ⟨v, hb, _⟩ := h
  have c2 := hb.cell 2
  go_enter Try.func96, Try.ntmps96
  go_wp2
  exact hK.out _ _ ⟨rfl, rfl⟩

set_option maxHeartbeats 400000 in
theorem penFail_w (w : World) (b m : Nat) (R : List Nat) (out : Bytes) (e x : Int) (h : Pen w b m R out e) :
    Calls Try.prog 94 #[vPtr b, vErr x] w fun r w' => r = .returned vUnit ∧ ∃ e', e' = (if e = 0 then x else e) ∧ Pen w' b m R out e' ∧ Ch [b] w w' := by
  refine calls_hide fun K hK => ?_
  obtain ⟨v, hb, hown, rfl, hbR, hl⟩ := h
  have c2 := hb.cell 2
  have f2 := hb.frozen 2
  by_cases he : e = 0
  · subst he
    go_enter Try.func94, Try.ntmps94
    go_wp2
    go_end0
    exact hK.out _ _ ⟨rfl, _, rfl, ⟨v, hb.set_ 2 _, Kd.u8_own_ch hown ((Ch.refl [b] w).setCell (by simp) _) (fun k hk hm => hbR (by simp at hm; subst hm; simp [hk])), rfl, hbR, hl⟩, (Ch.refl _ _).setCell (by simp) _⟩
  · have q : (e == 0) = false := by simp [he]
    go_enter Try.func94, Try.ntmps94
    go_wp2
    go_end0
    exact hK.out _ _ ⟨rfl, e, by simp [he], ⟨v, hb, hown, rfl, hbR, hl⟩, Ch.refl _ _⟩

set_option maxHeartbeats 800000 in
theorem penRoom_t (w : World) (b m : Nat) (R : List Nat) (out : Bytes) (n : Nat) (h : Pen w b m R out 0) (hl : out.length + n ≤ m) :
    Calls Try.prog 166 #[vPtr b, vInt n] w fun r w' => r = .returned (.bool true) ∧ Drawn w w' := by
  refine calls_hide fun K hK => ?_
  have hp := h
  obtain ⟨v, hb, hown, rfl, hbR, hlm, hm⟩ := h
  obtain ⟨A, c, rfl⟩ := hown.form
  have c0 := hb.cell 0
  have c1 := hb.cell 1
  have q : IntKind.i64.wrap ((m : Int) - out.length) = (m : Int) - out.length := IntWalk.i64_in _ (by omega)
  have q1 : ¬ (m : Int) - out.length < n := by omega
  go_enter Try.func166, Try.ntmps166
  go_wp2_with (go_at_call 96; refine (penErr_w _ _ _ _ _ _ hp).mono ?_; rintro e w' ⟨rfl, rfl⟩)
  go_quiet (fail)
  go_wp2
  exact hK.out _ _ ⟨rfl, Drawn.of _ _⟩

set_option maxHeartbeats 800000 in
theorem penRoom_f (w : World) (b m : Nat) (R : List Nat) (out : Bytes) (e : Int) (n : Nat) (h : Pen w b m R out e) (hl : ¬ (e = 0 ∧ out.length + n ≤ m)) :
    Calls Try.prog 166 #[vPtr b, vInt n] w fun r w' => r = .returned (.bool false) ∧ ∃ e', e' = (if e = 0 then 3 else e) ∧ Pen w' b m R out e' ∧ Ch [b] w w' := by
  refine calls_hide fun K hK => ?_
  have hp := h
  obtain ⟨v, hb, hown, rfl, hbR, hlm, hm⟩ := h
  obtain ⟨A, c, rfl⟩ := hown.form
  have c0 := hb.cell 0
  have c1 := hb.cell 1
  have c2 := hb.cell 2
  have f2 := hb.frozen 2
  by_cases he : e = 0
  · subst he
    have q : IntKind.i64.wrap ((m : Int) - out.length) = (m : Int) - out.length := IntWalk.i64_in _ (by omega)
    have q1 : (m : Int) - out.length < n := by omega
    go_enter Try.func166, Try.ntmps166
    go_wp2_with (go_at_call 96; refine (penErr_w _ _ _ _ _ _ hp).mono ?_; rintro e w' ⟨rfl, rfl⟩)
    go_quiet (fail)
    go_wp2
    exact hK.out _ _ ⟨rfl, _, rfl, ⟨_, (hb.drewN _).set_ 2 _, Kd.u8_own_ch hown (((Ch.refl [b] w).drewN _).setCell (by simp) _) (fun k hk hm => hbR (by simp at hm; subst hm; simp [hk])), rfl, hbR, hlm, hm⟩, ((Ch.refl _ _).drewN _).setCell (by simp) _⟩
  · have q : (e != 0) = true := by simp [he]
    go_enter Try.func166, Try.ntmps166
    go_wp2_with (go_at_call 96; refine (penErr_w _ _ _ _ _ _ hp).mono ?_; rintro e w' ⟨rfl, rfl⟩)
    exact hK.out _ _ ⟨rfl, e, by simp [he], hp, Ch.refl _ _⟩
end Go.Proofs.Ytmojbpgabpbacaa
