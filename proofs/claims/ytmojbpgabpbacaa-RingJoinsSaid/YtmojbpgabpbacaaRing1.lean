/- Package ring: rest, Encode. -/
import Derived.Test.YtmojbpgabpbacaaPenFix
import Derived.Test.YtmojbpgabpbacaaRing0
namespace Go.Proofs.Ytmojbpgabpbacaa
open Go.RowKit

def eRest (x : Member) : Bytes := [UInt8.ofNat x.state] ++ (eVar x.tokens.length ++ (x.tokens.map eFix).flatten)
def eMem (x : Member) : Bytes := eBlob x.name ++ (eVar x.epoch ++ eRest x)
def eRing (l : List Member) : Bytes := eVar l.length ++ (l.map eMem).flatten
/-- The numbers are numbers of their Go types. -/
def memNums (x : Member) : Prop := x.epoch < 18446744073709551616 ∧ x.state < 256 ∧ ∀ t ∈ x.tokens, t < 18446744073709551616
abbrev vMem (x : Member) (t : Value) : Value := .agg #[vStr x.name, vU64 x.epoch, vByte x.state, t]

set_option maxRecDepth 100000 in
set_option maxHeartbeats 1600000 in
theorem ringRest_w (w : World) (ok : Nat → Prop) (b m : Nat) (R : List Nat) (out : Bytes) (e : Int) (x : Member) (T : Option Addr) (c : Nat) (hx : memNums x) (hlen : x.tokens.length ≤ 16) (h : Pen w b m R out e) (hl : Kd.u64.At w ok (.slice T x.tokens.length c) x.tokens) (hok : ∀ k, ok k → k ∉ b :: R) :
    Calls Try.prog 79 #[vPtr b, vMem x (.slice T x.tokens.length c)] w fun r w' => r = .returned vUnit ∧ ∃ R' out' e', Wr w w' b m R out e (eRest x) R' out' e' := by
  refine calls_hide fun K hK => ?_
  obtain ⟨hx1, hx2, hx3⟩ := hx
  obtain ⟨nm, ep, st, tk⟩ := x
  dsimp only at hx1 hx2 hx3 hlen hl ⊢
  obtain ⟨y, rfl⟩ : ∃ y : UInt8, st = y.toNat := ⟨UInt8.ofNat st, by rw [UInt8.toNat_ofNat']; omega⟩
  have hA := (Ch.refl [] w).alloc (.cells #[vStr nm, vU64 ep, vByte y.toNat, .slice T tk.length c] 31)
  have hB := Blk.new w 31 [vStr nm, vU64 ep, vByte y.toNat, .slice T tk.length c]
  have hp := h.ch0 hA
  have hb0 := h.boxed rfl _ rfl
  have hlb := hl.bound
  have hla := hlb.ch0 hA
  have hbl : w.heap.size < (w.alloc (.cells #[vStr nm, vU64 ep, vByte y.toNat, .slice T tk.length c] 31)).heap.size := hB.lt
  go_enter Try.func79, Try.ntmps79
  go_wp2_with (first
    | (go_at_call 129; refine (penByte_w _ _ _ _ _ _ _ _ [y] (hp.ch0 ((Ch.refl _ _).alloc _)) (boxed Kd.u8 _ 5 (by simp) (kd_u8 y)) (hp.boxed (by simp))).mono ?_; rintro e w1 ⟨rfl, R2, o2, e2, hW⟩; replace hW := hW.box; have hB1 := hB.ch hW.ch hb0; have hb1 := hW.apart hb0 hbl; have x3 := hB1.cell 3)
    | (go_at_call 76; refine (putCount_w _ _ _ _ _ _ 16 _ hlen (by decide) hW.pen).mono ?_; rintro e w2 ⟨rfl, R3, o3, e3, hW3⟩; have hWW := hW.seq hW3; have hB2 := hB1.ch hW3.ch hb1; have y3 := hB2.cell 3; have hl2 := hla.ch hWW.ch (fun k hk _ => hok k hk.1); have hok2 : ∀ k, (ok k ∧ k < w.heap.size) → k ∉ b :: R3 := fun k hk => hWW.apart (hok k hk.1) (Nat.lt_of_lt_of_le hk.2 hA.size))
    | (go_at_call 130; refine (fixPut_w _ _ _ _ _ _ _ _ _ hx3 hW3.pen hl2 hok2).mono ?_; rintro e w4 ⟨rfl, R4, o4, e4, hW4⟩))
  go_end0
  exact hK.out _ _ ⟨rfl, R4, o4, e4, (hWW.seq' hW4 (by simp [eRest])).pre hA⟩

theorem firstErr_zero {α : Type} {f : Option α → α → Int} : ∀ (xs : List α) (p : Option α), firstErr f p xs = 0 → ∀ x ∈ xs, ∃ q, f q x = 0 := by
  intro xs
  induction xs with
  | nil => intro p _ x hx; cases hx
  | cons y r ih =>
    intro p h x hx
    unfold firstErr at h
    split at h
    · rcases List.mem_cons.1 hx with rfl | hx
      · exact ⟨p, by assumption⟩
      · exact ih _ h x hx
    · contradiction
theorem memErr_ok {p : Option Member} {x : Member} (h : memErr p x = 0) : x.name.length ≤ 32 ∧ 0 < x.name.length ∧ 0 < x.epoch ∧ x.state ≤ 3 ∧ x.tokens.length ≤ 16 := by
  unfold memErr at h
  repeat (split at h; · cases h)
  rename_i h1 h2 _ h4 h5 h6 _
  refine ⟨by omega, ?_, by omega, by omega, by omega⟩
  rcases hx : x.name with _ | ⟨_, _⟩
  · rw [hx] at h2; exact absurd rfl h2
  · simp
theorem chkRing_ok {l : List Member} (h : chkRing l = 0) : l.length ≤ 32 ∧ ∀ x ∈ l, x.name.length ≤ 32 ∧ 0 < x.name.length ∧ 0 < x.epoch ∧ x.state ≤ 3 ∧ x.tokens.length ≤ 16 := by
  unfold chkRing at h
  split at h
  · cases h
  · refine ⟨by omega, fun x hx => ?_⟩
    obtain ⟨q, hq⟩ := firstErr_zero _ _ h x hx
    exact memErr_ok hq
theorem flatten_len {α : Type} (f : α → Bytes) (c : Nat) : ∀ (l : List α), (∀ x ∈ l, (f x).length ≤ c) → (l.map f).flatten.length ≤ l.length * c := by
  intro l
  induction l with
  | nil => intro _; simp
  | cons x r ih =>
    intro h
    have h1 := h x (by simp)
    have h2 := ih (fun y hy => h y (by simp [hy]))
    simp only [List.map_cons, List.flatten_cons, List.length_append, List.length_cons, Nat.add_mul]
    omega
theorem eVar_le' {n : Nat} (h : n < 18446744073709551616) : (eVar n).length ≤ 10 := eVar_le n h
theorem eMem_len {x : Member} (hn : memNums x) (h : x.name.length ≤ 32 ∧ 0 < x.name.length ∧ 0 < x.epoch ∧ x.state ≤ 3 ∧ x.tokens.length ≤ 16) : (eMem x).length ≤ 200 := by
  have h1 := flatten_len eFix 8 x.tokens (fun t _ => Nat.le_of_eq (eFix_len t))
  have h2 := eVar_le' (n := x.name.length) (by omega)
  have h3 := eVar_le' (n := x.tokens.length) (by omega)
  have h4 := eVar_le' hn.1
  simp only [eMem, eRest, eBlob, List.length_append, List.length_singleton]
  omega
theorem eRing_len {l : List Member} (hn : ∀ x ∈ l, memNums x) (h : chkRing l = 0) : (eRing l).length ≤ 65536 := by
  obtain ⟨h0, h1⟩ := chkRing_ok h
  have h2 := flatten_len eMem 200 l (fun x hx => eMem_len (hn x hx) (h1 x hx))
  have h3 := eVar_le' (n := l.length) (by omega)
  simp only [eRing, List.length_append]
  omega
theorem Wr.full {w w' : World} {b m : Nat} {R R' : List Nat} {t o' : Bytes} {e' : Int} (h : Wr w w' b m R [] 0 t R' o' e') (hl : t.length ≤ m) : o' = t ∧ e' = 0 := by
  have := (h.put.2 rfl).1 (by simpa using hl)
  simpa using this
def encRing (l : List Member) : Bytes × Int := if chkRing l = 0 then (eRing l, 0) else ([], chkRing l)

set_option maxRecDepth 100000 in
set_option maxHeartbeats 3200000 in
theorem ringEncode_w (w : World) (ok : Nat → Prop) (v : Value) (l : List Member) (hn : ∀ x ∈ l, memNums x) (h : Kd.mem.At w ok v l) :
    Calls Try.prog 36 #[v] w fun r w' => r = .returned (.tuple #[vStr (encRing l).1, vErr (encRing l).2]) ∧ Ch [] w w' := by
  refine calls_hide fun K hK => ?_
  have h := h.bound
  have hat := h
  obtain ⟨A, c, rfl, hc, hm, hrow⟩ := h
  unfold maxLen at hm
  by_cases hck : chkRing l = 0
  · obtain ⟨h32, hall⟩ := chkRing_ok hck
    go_enter Try.func36, Try.ntmps36
    go_wp2_with (first
      | (go_at_call 38; refine (ringCheck_w _ _ _ _ hat).mono ?_; rintro e w1 ⟨rfl, hch1⟩; rw [hck])
      | (go_at_call 48; refine (penNew_w _ 65536 (by decide)).mono ?_; rintro e w2 ⟨b, rfl, hb, hp, hch2⟩)
      | (go_at_call 76; refine (putCount_w _ _ _ _ _ _ 32 _ h32 (by decide) hp).mono ?_; rintro e w3 ⟨rfl, R3, o3, e3, hW3⟩))
    have hch12 := hch1.trans0 hch2
    go_loopw [20] (fun i wr => ∃ k R1 o1 e1, i = vInt k ∧ k ≤ l.length ∧ Wr w2 wr b 65536 [] [] 0 (eVar l.length ++ ((l.take k).map eMem).flatten) R1 o1 e1) (fun i _ => l.length - (intOf i).toNat)
    case atStart => exact ⟨0, R3, o3, e3, rfl, by omega, by simpa using hW3⟩
    case round =>
      obtain ⟨k, R1, o1, e1, rfl, hk, hw⟩ := hrel
      by_cases hlt : k < l.length
      · obtain ⟨g, o, rfl, hg, hgl⟩ := hrow.addr (by omega)
        have hap : ∀ k, (ok k ∧ k < w.heap.size) → k ∉ b :: ([] : List Nat) := fun k hk => by have := hk.2; have := hch1.size; simp; omega
        have hr := (hrow.ch0 hch12).ch hw.ch (fun k h1 _ => hap k h1)
        obtain ⟨T, m, c0, c1, c2, c3, ht⟩ := Kd.mem_cells hr hlt
        obtain ⟨x, hx⟩ : ∃ x, l[k] = x := ⟨_, rfl⟩
        have hxl : x ∈ l := hx ▸ List.getElem_mem hlt
        have htk : eVar l.length ++ ((l.take (k + 1)).map eMem).flatten = (eVar l.length ++ ((l.take k).map eMem).flatten) ++ (([eBlob x.name].flatten ++ [eVar x.epoch].flatten) ++ eRest x) := by
          rw [List.take_succ_eq_append_getElem hlt, List.map_append, List.flatten_append, hx]
          simp [eMem]
        rw [hx] at c0 c1 c2 c3 ht
        have hxn := hn _ hxl
        have hxo := hall _ hxl
        clear hx
        have hA := (Ch.refl [] wr).alloc (.cells #[vStr x.name, vU64 x.epoch, vByte x.state, .slice T x.tokens.length m] 31)
        have hBx := Blk.new wr 31 [vStr x.name, vU64 x.epoch, vByte x.state, .slice T x.tokens.length m]
        have hp1 := hw.pen.ch0 hA
        have hb0 := hw.pen.boxed rfl _ rfl
        have hla := ht.ch0 hA
        have hok1 : ∀ k, (ok k ∧ k < w.heap.size) → k ∉ b :: R1 := fun k hk => hw.apart (hap k hk) (Nat.lt_of_lt_of_le hk.2 hch12.size)
        go_wp2_with (first
          | (go_at_call 77; refine (blobPut_w _ _ _ _ _ _ _ 32 _ [x.name] (by decide) (by simp; omega) (hp1.ch0 ((Ch.refl _ _).alloc _)) (boxed Kd.str _ 9 (by simp) (kd_str _)) (hp1.boxed (by simp))).mono ?_; rintro e w4 ⟨rfl, R4, o4, e4, hW4⟩; replace hW4 := hW4.box; have hB4 := hBx.ch hW4.ch hb0; have hb4 := hW4.apart hb0 hBx.lt; have x1 := hB4.cell 1)
          | (go_at_call 78; refine (varPut_w _ _ _ _ _ _ _ _ [x.epoch] (by simpa using hxn.1) (hW4.pen.ch0 ((Ch.refl _ _).alloc _)) (boxed Kd.u64 _ 23 (by simp) (kd_u64 _)) (hW4.pen.boxed (by simp))).mono ?_; rintro e w5 ⟨rfl, R5, o5, e5, hW5⟩; replace hW5 := hW4.seq hW5.box; have hB5 := hBx.ch hW5.ch hb0; have y0 := hB5.cell 0; have y1 := hB5.cell 1; have y2 := hB5.cell 2; have y3 := hB5.cell 3)
          | (go_at_call 79; refine (ringRest_w _ _ _ _ _ _ _ x T m hxn hxo.2.2.2.2 hW5.pen (hla.ch hW5.ch (fun k h1 _ => hok1 k h1)) (fun k h1 => hW5.apart (hok1 k h1) (Nat.lt_of_lt_of_le (Nat.lt_of_lt_of_le h1.2 hch12.size) (Nat.le_trans hw.ch.size hA.size)))).mono ?_; rintro e w6 ⟨rfl, R6, o6, e6, hW6⟩))
        go_roundw
        case rel => exact ⟨k + 1, _, _, _, by go_num, by omega, hw.seq' ((hW5.seq hW6).pre hA) htk⟩
        case measure => simp [intOf]; omega
      · rw [List.take_of_length_le (by omega)] at hw
        obtain ⟨rfl, rfl⟩ := Wr.full (t := eRing l) hw (eRing_len hn hck)
        go_wp2_with (first
          | (go_at_call 50; refine (penEnd_w _ _ _ _ _ _ hw.pen).mono ?_; rintro e w4 ⟨rfl, rfl⟩))
        exact hK.out _ _ ⟨by simp [encRing, hck], hch12.trans hw.ch (fun t ht => .inr (by obtain rfl : t = b := by simpa using ht
                                                                                          exact Nat.le_trans hch1.size hb))⟩
  · have q : (chkRing l != 0) = true := by simp [hck]
    go_enter Try.func36, Try.ntmps36
    go_wp2_with (first
      | (go_at_call 38; refine (ringCheck_w _ _ _ _ hat).mono ?_; rintro e w1 ⟨rfl, hch1⟩))
    exact hK.out _ _ ⟨by simp [encRing, hck]; rfl, hch1⟩
end Go.Proofs.Ytmojbpgabpbacaa
