/- The reference's pen (spenceref02), and what its writers of numbers, texts and counts write (spenceref03, 04, 06). -/
import Derived.Test.YtmojbpgabpbacaaPenFix
import Derived.Deep.RegionWith
namespace Go.Proofs.Ytmojbpgabpbacaa
open Go.RowKit

theorem bs_append (a b : Bytes) : bs a ++ bs b = bs (a ++ b) := by
  have h : (bs a ++ bs b).data = (bs (a ++ b)).data := by simp [bs]
  cases h1 : bs a ++ bs b
  cases h2 : bs (a ++ b)
  rw [h1, h2] at h
  simpa using h
/-- The reference's pen of m bytes at most. -/
def RPen (w : World) (b m : Nat) (out : Bytes) (e : Int) : Prop := Blk w b 156 [vStr out, vInt m, vErr e] ∧ out.length ≤ m ∧ m ≤ 1000000
structure RW (w w' : World) (b m : Nat) (out : Bytes) (e : Int) (t out' : Bytes) (e' : Int) : Prop where
  pen : RPen w' b m out' e'
  ch : Ch [b] w w'
  put : Put m out e t out' e'
section
variable {w w' w1 w2 : World} {b m : Nat} {out out1 out2 out' t u : Bytes} {e e1 e2 e' : Int}
theorem RPen.lt (h : RPen w b m out e) : b < w.heap.size := h.1.lt
theorem RPen.ch {S : List Nat} (h : RPen w b m out e) (hc : Ch S w w') (hb : b ∉ S) : RPen w' b m out e := ⟨h.1.ch hc hb, h.2⟩
theorem RPen.ch0 (h : RPen w b m out e) (hc : Ch [] w w') : RPen w' b m out e := h.ch hc (by simp)
theorem RPen.drewN (h : RPen w b m out e) (n : Nat) : RPen (w.drewN n) b m out e := h
theorem RPen.facts (h : RPen w b m out e) : w.cell? ⟨b, 0, none⟩ = some (vStr out) ∧ w.cell? ⟨b, 1, none⟩ = some (vInt m) ∧ w.cell? ⟨b, 2, none⟩ = some (vErr e) ∧ w.frozen? ⟨b, 0, none⟩ = false ∧ w.frozen? ⟨b, 2, none⟩ = false ∧ (out.length : Int) ≤ m ∧ (m : Int) ≤ 1000000 :=
  ⟨h.1.cell 0, h.1.cell 1, h.1.cell 2, h.1.frozen 0, h.1.frozen 2, by have := h.2.1; omega, by have := h.2.2; omega⟩
theorem RW.refl (h : RPen w b m out e) : RW w w b m out e [] out e := ⟨h, Ch.refl _ _, Put.nil h.2.1⟩
theorem RW.seq (h : RW w w1 b m out e t out1 e1) (k : RW w1 w2 b m out1 e1 u out2 e2) : RW w w2 b m out e (t ++ u) out2 e2 := ⟨k.pen, h.ch.trans' k.ch, h.put.seq k.put⟩
theorem RW.seq' {tu : Bytes} (h : RW w w1 b m out e t out1 e1) (k : RW w1 w2 b m out1 e1 u out2 e2) (ht : tu = t ++ u) : RW w w2 b m out e tu out2 e2 := ht ▸ h.seq k
theorem RW.pre (h : Ch [] w w1) (k : RW w1 w2 b m out e u out2 e2) : RW w w2 b m out e u out2 e2 := ⟨k.pen, (h.mono (T := [b]) (by simp)).trans' k.ch, k.put⟩
theorem RW.post (k : RW w w1 b m out e u out2 e2) (h : Ch [] w1 w2) : RW w w2 b m out e u out2 e2 := ⟨k.pen.ch0 h, k.ch.trans0 h, k.put⟩
theorem RW.fail (h : RW w w1 b m out e t out1 e1) (he : e1 ≠ 0) (u : Bytes) : RW w w1 b m out e (t ++ u) out1 e1 := ⟨h.pen, h.ch, h.put.fail he u⟩
theorem RW.full {o' : Bytes} (h : RW w w' b m [] 0 t o' e') (hl : t.length ≤ m) : o' = t ∧ e' = 0 := by
  have := (h.put.2 rfl).1 (by simpa using hl)
  simpa using this
end

set_option maxHeartbeats 400000 in
theorem rNew_w (w : World) (m : Nat) (hm : m ≤ 1000000) :
    Calls Try.prog 51 #[vInt m] w fun r w' => ∃ b, r = .returned (vPtr b) ∧ w.heap.size ≤ b ∧ RPen w' b m [] 0 ∧ Ch [] w w' := by
  refine calls_hide fun K hK => ?_
  have q : decide ((m : Int) < 0) = false := decide_eq_false (by omega)
  go_enter Try.func51, Try.ntmps51
  go_wp2
  exact hK.out _ _ ⟨w.heap.size, rfl, Nat.le_refl _, ⟨Blk.new w _ [vStr [], vInt m, vErr 0], by simp, hm⟩, (Ch.refl _ _).alloc _⟩

set_option maxHeartbeats 400000 in
theorem rFail_w (w : World) (b m : Nat) (out : Bytes) (e x : Int) (h : RPen w b m out e) :
    Calls Try.prog 97 #[vPtr b, vErr x] w fun r w' => r = .returned vUnit ∧ ∃ e', e' = (if e = 0 then x else e) ∧ RPen w' b m out e' ∧ Ch [b] w w' := by
  refine calls_hide fun K hK => ?_
  obtain ⟨c0, c1, c2, f0, f2, l1, l2⟩ := h.facts
  by_cases he : e = 0
  · subst he
    go_enter Try.func97, Try.ntmps97
    go_wp2
    go_end0
    exact hK.out _ _ ⟨rfl, x, by simp, ⟨h.1.set_ 2 _, h.2⟩, (Ch.refl _ _).setCell (by simp) _⟩
  · have hb : (e == 0) = false := by simp [he]
    go_enter Try.func97, Try.ntmps97
    go_wp2
    go_end0
    exact hK.out _ _ ⟨rfl, e, by simp [he], h, Ch.refl _ _⟩

set_option maxHeartbeats 800000 in
theorem rText_w (w : World) (b m : Nat) (out : Bytes) (e : Int) (s : Bytes) (hs : s.length ≤ 140737488351232) (h : RPen w b m out e) :
    Calls Try.prog 133 #[vPtr b, vStr s] w fun r w' => r = .returned vUnit ∧ ∃ out' e', RW w w' b m out e s out' e' := by
  refine calls_hide fun K hK => ?_
  obtain ⟨c0, c1, c2, f0, f2, l1, l2⟩ := h.facts
  have hw : IntKind.i64.wrap ((out.length : Int) + s.length) = (out.length : Int) + s.length := IntWalk.i64_in _ (by omega)
  by_cases he : e = 0
  · subst he
    by_cases hl : (m : Int) < (out.length : Int) + s.length
    · go_enter Try.func133, Try.ntmps133
      go_wp2
      go_quiet (fail)
      go_wp2
      refine bodyPost_ret (results_none rfl _ _ _) rfl ?_
      exact hK.out _ _ ⟨rfl, out, 3, ⟨(h.1.drewN _).set_ 2 _, h.2⟩, ((Ch.refl _ _).drewN _).setCell (by simp) _, Put.full rfl (by omega)⟩
    · go_enter Try.func133, Try.ntmps133
      go_wp2
      go_quiet (fail)
      go_wp2
      go_end0
      exact hK.out _ _ ⟨rfl, out ++ s, 0, ⟨by rw [bs_append]; exact (h.1.drewN _).set_ 0 _, by rw [List.length_append]; omega, h.2.2⟩, ((Ch.refl _ _).drewN _).setCell (by simp) _, fun h => absurd rfl h, fun _ => ⟨fun _ => ⟨rfl, rfl⟩, fun h => absurd h (by omega)⟩⟩
  · have hb : (e != 0) = true := by simp [he]
    go_enter Try.func133, Try.ntmps133
    go_wp2
    refine bodyPost_ret (results_none rfl _ _ _) rfl ?_
    exact hK.out _ _ ⟨rfl, out, e, h, Ch.refl _ _, Put.elder he _⟩

/-- string([]byte{x}). -/
theorem run_letter {P : Program} (W : World) (src dst e : TypeId) (z : Int) (y : UInt8) (hs : P.underlying src = some (.slice e)) (he : P.underlying e = some (.int .u8)) (hd : P.underlying dst = some .string) (hz : z = y.toNat) :
    (convert src dst (.slice (some ⟨W.heap.size, 0, none⟩) 1 1)).run P (W.alloc (.cells #[.int .u8 z] e)) = .ok (vStr [y]) (W.alloc (.cells #[.int .u8 z] e)) := by
  subst hz
  exact Blk.text (w := W.alloc (.cells #[.int .u8 y.toNat] e)) (l := [y]) (Blk.new W e [vByte y.toNat]) src dst e 1 hs he hd
set_option maxHeartbeats 400000 in
theorem rByte_w (w : World) (b m : Nat) (out : Bytes) (e : Int) (y : UInt8) (h : RPen w b m out e) :
    Calls Try.prog 89 #[vPtr b, vByte y.toNat] w fun r w' => r = .returned vUnit ∧ ∃ out' e', RW w w' b m out e [y] out' e' := by
  refine calls_hide fun K hK => ?_
  have hcv := run_letter (P := Try.prog) w 159 9 5 y.toNat y Try.underlying159 Try.underlying5 Try.underlying9 rfl
  have hch := (Ch.refl [] w).alloc (.cells #[vByte y.toNat] 5)
  go_enter Try.func89, Try.ntmps89
  go_wp2_with (go_at_call 133; refine (rText_w _ _ _ _ _ [y] (by simp) (h.ch0 hch)).mono ?_; rintro e w' ⟨rfl, o', e', hw⟩)
  go_end0
  exact hK.out _ _ ⟨rfl, o', e', hw.pre hch⟩

/-- varint, by halves. -/
theorem toNat_ofNat {n : Nat} (h : n < 256) : (UInt8.ofNat n).toNat = n := by rw [UInt8.toNat_ofNat']; exact Nat.mod_eq_of_lt h
set_option maxRecDepth 100000 in
set_option maxHeartbeats 1600000 in
theorem rVarEnc_w : ∀ (k : Nat) (w : World) (n : Nat), n < 18446744073709551616 → n < 128 ^ (k + 1) →
    Calls Try.prog 169 #[vU64 n] w fun r w' => r = .returned (vStr (eVar n)) ∧ Ch [] w w' := by
  intro k
  induction k with
  | zero =>
    intro w n hn hk
    refine calls_hide fun K hK => ?_
    have hlt : (n : Int) < 128 := by omega
    have hcv := run_letter (P := Try.prog) w 159 9 5 n (UInt8.ofNat n) Try.underlying159 Try.underlying5 Try.underlying9 (by rw [toNat_ofNat (by omega)])
    go_enter Try.func169, Try.ntmps169
    go_wp2
    exact hK.out _ _ ⟨by rw [eVar_small (by omega)]; rfl, (Ch.refl _ _).alloc _⟩
  | succ k ih =>
    intro w n hn hk
    refine calls_hide fun K hK => ?_
    by_cases hlt : (n : Int) < 128
    · have hcv := run_letter (P := Try.prog) w 159 9 5 n (UInt8.ofNat n) Try.underlying159 Try.underlying5 Try.underlying9 (by rw [toNat_ofNat (by omega)])
      go_enter Try.func169, Try.ntmps169
      go_wp2
      exact hK.out _ _ ⟨by rw [eVar_small (by omega)]; rfl, (Ch.refl _ _).alloc _⟩
    · have hd : n / 128 < 128 ^ (k + 1) := by
        rw [Nat.pow_succ] at hk
        exact Nat.div_lt_of_lt_mul (by omega)
      have ih' := fun W => ih W (n / 128) (by omega) hd
      have hcv : ∀ (W' : World) (B : Nat), Blk W' B 5 [vByte (UInt8.ofNat (n % 128 + 128)).toNat] → (convert 159 9 (.slice (some ⟨B, 0, none⟩) 1 1)).run Try.prog W' = .ok (vStr [UInt8.ofNat (n % 128 + 128)]) W' := fun W' B hb => Blk.text (l := [UInt8.ofNat (n % 128 + 128)]) hb 159 9 5 1 Try.underlying159 Try.underlying5 Try.underlying9
      obtain ⟨y, hy⟩ : ∃ y, UInt8.ofNat (n % 128 + 128) = y := ⟨_, rfl⟩
      have q1 : IntKind.u8.wrap (IntKind.u64.wrap ((n : Int).tmod 128 + 128)) = (y.toNat : Int) := by
        rw [← hy, toNat_ofNat (by omega), show (n : Int).tmod 128 = ((n % 128 : Nat) : Int) from rfl, IntWalk.u64_in _ (by omega), IntWalk.u8_in _ (by omega)]
        omega
      have q2 : IntKind.u64.wrap ((n : Int) / 128) = ((n / 128 : Nat) : Int) := by rw [IntWalk.u64_in _ (by omega)]; omega
      rw [hy] at hcv
      have hE := hide (show eVar n = y :: eVar (n / 128) by rw [eVar_big (by omega), hy])
      have hB0 : Blk (w.alloc (.cells #[vByte y.toNat] 5)).drew w.heap.size 5 [vByte y.toNat] := Blk.new w _ [vByte y.toNat]
      have hBn : ∀ W : World, Blk (W.alloc (.cells #[vByte y.toNat] 5)) W.heap.size 5 [vByte y.toNat] := fun W => Blk.new W _ [vByte y.toNat]
      obtain ⟨u, hu⟩ : ∃ u, eVar (n / 128) = u := ⟨_, rfl⟩
      have hul : u.length ≤ 100 := by
        have := eVar_le (n / 128) (by omega)
        rw [← hu]; omega
      rw [hu] at hE ih'
      clear hk hn hd ih hy hu
      go_enter Try.func169, Try.ntmps169
      go_wp2
      go_region_with (refine (ih' _).mono ?_; rintro e w' ⟨rfl, hch⟩; (try have hb2 := hB0.ch0 hch))
      all_goals
        go_simp
        go_wp2
        refine hK.out (.returned (.string (bs [y] ++ bs u))) _ ⟨by rw [hE.out, bs_append]; rfl, ?_⟩
      · exact (((Ch.refl _ _).alloc _).drew).trans' hch
      · exact (((Ch.refl _ _).alloc _).drew).trans' hch
      · exact ((Ch.refl _ _).drew.trans' hch).alloc _
set_option maxHeartbeats 800000 in
theorem rVarPut_w (w : World) (b m : Nat) (out : Bytes) (e : Int) (n : Nat) (hn : n < 18446744073709551616) (h : RPen w b m out e) :
    Calls Try.prog 134 #[vPtr b, vU64 n] w fun r w' => r = .returned vUnit ∧ ∃ out' e', RW w w' b m out e (eVar n) out' e' := by
  refine calls_hide fun K hK => ?_
  have hl := eVar_le n hn
  have hE := rVarEnc_w 9 w n hn (Nat.lt_of_lt_of_le hn (by decide))
  clear hn
  go_enter Try.func134, Try.ntmps134
  go_wp2_with (first
    | (go_at_call 169; refine hE.mono ?_; rintro e w1 ⟨rfl, hch⟩)
    | (go_at_call 133; refine (rText_w _ _ _ _ _ (eVar n) (by omega) (h.ch0 hch)).mono ?_; rintro e w2 ⟨rfl, o', e', hw⟩))
  go_end0
  exact hK.out _ _ ⟨rfl, o', e', hw.pre hch⟩
set_option maxHeartbeats 400000 in
theorem rWidth_w (w : World) : Calls Try.prog 135 #[vInt 8] w fun r w' => r = .returned (.bool true) ∧ w = w' := by
  refine calls_hide fun K hK => ?_
  go_enter Try.func135, Try.ntmps135
  go_wp2
  exact hK.out _ _ ⟨rfl, rfl⟩
theorem fixAt_toNat (n i : Nat) : (fixAt n i).toNat = n / 2 ^ (56 - 8 * i) % 256 := by unfold fixAt; rw [UInt8.toNat_ofNat']
theorem eFix_drop (n i : Nat) (hi : i < 8) : (eFix n).drop (8 - (i + 1)) = UInt8.ofNat (n / 256 ^ i % 256) :: (eFix n).drop (8 - i) := by
  have h1 : 8 - (i + 1) < (eFix n).length := by rw [eFix_len]; omega
  rw [List.drop_eq_getElem_cons h1, show 8 - (i + 1) + 1 = 8 - i by omega]
  congr 1
  simp only [eFix, List.getElem_map, List.getElem_range]
  apply UInt8.toNat_inj.1
  rw [fixAt_toNat, UInt8.toNat_ofNat', show 56 - 8 * (8 - (i + 1)) = 8 * i by omega, Nat.pow_mul]
  simp
set_option maxRecDepth 100000 in
set_option maxHeartbeats 1600000 in
theorem rFixBytes_w (w : World) (n : Nat) (hn : n < 18446744073709551616) :
    Calls Try.prog 136 #[vInt 8, vU64 n] w fun r w' => r = .returned (.tuple #[vStr (eFix n), vU64 0]) ∧ Ch [] w w' := by
  refine calls_hide fun K hK => ?_
  have hdiv := hide (show n / 256 ^ 8 = 0 from Nat.div_eq_of_lt (Nat.lt_of_lt_of_le hn (by decide)))
  have HN := hide hn
  clear hn
  go_enter Try.func136, Try.ntmps136
  go_wp2
  go_loopw [1, 6, 7] (fun nv sv iv wr => ∃ i m : Nat, iv = vInt i ∧ i ≤ 8 ∧ nv = vU64 m ∧ m ≤ n ∧ Hid (m = n / 256 ^ i) ∧ sv = vStr ((eFix n).drop (8 - i)) ∧ Ch [] w wr) (fun _ _ iv _ => 8 - (intOf iv).toNat)
  case atStart => exact ⟨0, n, rfl, by omega, rfl, Nat.le_refl _, hide (by simp), by rw [List.drop_of_length_le (by simp [eFix_len])]; rfl, Ch.refl _ _⟩
  case round =>
    obtain ⟨i, m, rfl, hi, rfl, hmn, hm, rfl, hch⟩ := hrel
    by_cases hlt : i < 8
    · have hdr := hide (eFix_drop n i hlt)
      obtain ⟨u, hu⟩ : ∃ u, (eFix n).drop (8 - i) = u := ⟨_, rfl⟩
      have hul : u.length ≤ 8 := by rw [← hu, List.length_drop, eFix_len]; omega
      obtain ⟨y, hy⟩ : ∃ y, UInt8.ofNat (n / 256 ^ i % 256) = y := ⟨_, rfl⟩
      rw [hu, hy] at hdr
      have q1 : IntKind.u8.wrap ((m : Int) % 256) = (y.toNat : Int) := by
        rw [← hy, ← hm.out, toNat_ofNat (by omega), IntWalk.u8_in _ (by omega)]
        omega
      have q3 : (m : Int) % 256 = (y.toNat : Int) := by
        rw [← hy, ← hm.out, toNat_ofNat (by omega)]
        omega
      have hcv := run_letter (P := Try.prog) wr 159 9 5 y.toNat y Try.underlying159 Try.underlying5 Try.underlying9 rfl
      have hyl := y.toNat_lt
      rw [hu]
      clear hu hy
      have q2 : IntKind.u64.wrap ((m : Int) / 256) = ((m / 256 : Nat) : Int) := by have hnn := HN.out; rw [IntWalk.u64_in _ (by omega)]; omega
      have hm' := hide (show m / 256 = n / 256 ^ (i + 1) by rw [hm.out, Nat.pow_succ, Nat.div_div_eq_div_mul])
      clear hmn
      go_wp2
      go_roundw
      case rel => exact ⟨i + 1, m / 256, by go_num, by omega, congrArg (Value.int .u64) (by omega), by have := Nat.div_le_self n (256 ^ (i + 1)); rw [hm'.out]; exact this, hm', by rw [hdr.out, bs_append]; rfl, hch.alloc _⟩
      case measure => simp [intOf]; omega
    · obtain rfl : i = 8 := by omega
      rw [hdiv.out] at hm
      obtain rfl : m = 0 := hm.out
      clear hmn
      go_wp2
      exact hK.out _ _ ⟨by simp, hch⟩

set_option maxHeartbeats 800000 in
theorem rFixPut_w (w : World) (b m : Nat) (out : Bytes) (e : Int) (n : Nat) (hn : n < 18446744073709551616) (h : RPen w b m out e) :
    Calls Try.prog 91 #[vPtr b, vInt 8, vU64 n] w fun r w' => r = .returned vUnit ∧ ∃ out' e', RW w w' b m out e (eFix n) out' e' := by
  refine calls_hide fun K hK => ?_
  have hl := eFix_len n
  have hl' : (eFix n).length ≤ 8 := by omega
  clear hl
  have hE := fun W => rFixBytes_w W n hn
  clear hn
  go_enter Try.func91, Try.ntmps91
  go_wp2_with (first
    | (go_at_call 135; refine (rWidth_w _).mono ?_; rintro e w1 ⟨rfl, rfl⟩)
    | (go_at_call 136; refine (hE _).mono ?_; rintro e w1 ⟨rfl, hch⟩)
    | (go_at_call 133; refine (rText_w _ _ _ _ _ (eFix n) (by omega) (h.ch0 hch)).mono ?_; rintro e w2 ⟨rfl, o', e', hw⟩))
  go_end0
  exact hK.out _ _ ⟨rfl, o', e', hw.pre hch⟩

set_option maxHeartbeats 800000 in
theorem rBlobPut_w (w : World) (b m : Nat) (out : Bytes) (e : Int) (x : Nat) (s : Bytes) (hx : x ≤ 1000000) (hs : s.length ≤ x) (h : RPen w b m out e) :
    Calls Try.prog 98 #[vPtr b, vInt x, vStr s] w fun r w' => r = .returned vUnit ∧ ∃ out' e', RW w w' b m out e (eBlob s) out' e' := by
  refine calls_hide fun K hK => ?_
  have q0 : ¬ (x : Int) < 0 := by omega
  have q1 : ¬ (x : Int) < (s.length : Int) := by omega
  go_enter Try.func98, Try.ntmps98
  go_wp2_with (first
    | (go_at_call 134; refine (rVarPut_w _ _ _ _ _ s.length (by omega) h).mono ?_; rintro e w1 ⟨rfl, o1, e1, hw1⟩)
    | (go_at_call 133; refine (rText_w _ _ _ _ _ s (by omega) hw1.pen).mono ?_; rintro e w2 ⟨rfl, o2, e2, hw2⟩))
  go_end0
  exact hK.out _ _ ⟨rfl, o2, e2, hw1.seq hw2⟩
set_option maxHeartbeats 800000 in
theorem rPutCount_w (w : World) (b m : Nat) (out : Bytes) (e : Int) (x n : Nat) (hn : n ≤ x) (hx : x ≤ 1000000) (h : RPen w b m out e) :
    Calls Try.prog 90 #[vPtr b, vInt x, vInt n] w fun r w' => r = .returned vUnit ∧ ∃ out' e', RW w w' b m out e (eVar n) out' e' := by
  refine calls_hide fun K hK => ?_
  have q0 : ¬ (x : Int) < 0 := by omega
  have q1 : ¬ (n : Int) < 0 := by omega
  have q2 : ¬ (x : Int) < (n : Int) := by omega
  go_enter Try.func90, Try.ntmps90
  go_wp2_with (first
    | (go_at_call 134; refine (rVarPut_w _ _ _ _ _ n (by omega) h).mono ?_; rintro e w1 ⟨rfl, o1, e1, hw1⟩))
  go_end0
  exact hK.out _ _ ⟨rfl, o1, e1, hw1⟩
set_option maxHeartbeats 800000 in
theorem rPutFlag_w (w : World) (b m : Nat) (out : Bytes) (e : Int) (x : Bool) (h : RPen w b m out e) :
    Calls Try.prog 142 #[vPtr b, .bool x] w fun r w' => r = .returned vUnit ∧ ∃ out' e', RW w w' b m out e (eFlag x) out' e' := by
  refine calls_hide fun K hK => ?_
  cases x
  · go_enter Try.func142, Try.ntmps142
    go_wp2_with (first
      | (go_at_call 89; refine (rByte_w _ _ _ _ _ 0 h).mono ?_; rintro e w1 ⟨rfl, o1, e1, hw1⟩))
    go_end0
    exact hK.out _ _ ⟨rfl, o1, e1, hw1⟩
  · go_enter Try.func142, Try.ntmps142
    go_wp2_with (first
      | (go_at_call 89; refine (rByte_w _ _ _ _ _ 1 h).mono ?_; rintro e w1 ⟨rfl, o1, e1, hw1⟩))
    go_end0
    exact hK.out _ _ ⟨rfl, o1, e1, hw1⟩
set_option maxHeartbeats 800000 in
theorem rEnd_w (w : World) (b m : Nat) (out : Bytes) (e : Int) (h : RPen w b m out e) :
    Calls Try.prog 53 #[vPtr b] w fun r w' => r = .returned (.tuple #[vStr (if e = 0 then out else []), vErr e]) ∧ Drawn w w' := by
  refine calls_hide fun K hK => ?_
  obtain ⟨c0, c1, c2, f0, f2, l1, l2⟩ := h.facts
  by_cases he : e = 0
  · subst he
    go_enter Try.func53, Try.ntmps53
    go_wp2
    exact hK.out _ _ ⟨rfl, Drawn.refl _⟩
  · have q : (e != 0) = true := by simp [he]
    go_enter Try.func53, Try.ntmps53
    go_wp2
    go_quiet (fail)
    go_wp2
    exact hK.out _ _ ⟨by simp only [if_neg he]; rfl, Drawn.of _ _⟩
end Go.Proofs.Ytmojbpgabpbacaa
