/- Package fixed: Put at width 8. -/
import Derived.Test.YtmojbpgabpbacaaPenBlob
namespace Go.Proofs.Ytmojbpgabpbacaa
open Go.RowKit

def fixAt (n i : Nat) : UInt8 := UInt8.ofNat (n / 2 ^ (56 - 8 * i))
def eFix (n : Nat) : Bytes := (List.range 8).map (fixAt n)
theorem eFix_len (n : Nat) : (eFix n).length = 8 := by simp [eFix]
def fixRow (n k : Nat) : Bytes := (List.range 8).map fun i => if i < k then fixAt n i else 0
def byteVals (l : Bytes) : List Value := l.map fun x => vByte x.toNat
theorem fixRow_set (n k : Nat) : (byteVals (fixRow n k)).set k (vByte (fixAt n k).toNat) = byteVals (fixRow n (k + 1)) := by
  apply List.ext_getElem
  · simp [byteVals, fixRow]
  · intro i h1 h2
    simp only [byteVals, fixRow, List.getElem_set, List.getElem_map, List.getElem_range]
    by_cases h : k = i
    · subst h; simp
    · have e : (i < k + 1) = (i < k) := by apply propext; omega
      simp [h, e]

theorem byteVals_lt (n k : Nat) {j : Nat} (h : j < 8) : j < (byteVals (fixRow n k)).length := by simpa [byteVals, fixRow] using h
theorem Blk.text {P : Program} {w : World} {g : Nat} {t : TypeId} {l : Bytes} (h : Blk w g t (byteVals l)) (src dst e : TypeId) (c : Nat) (hs : P.underlying src = some (.slice e)) (he : P.underlying e = some (.int .u8)) (hd : P.underlying dst = some .string) :
    (convert src dst (.slice (some ⟨g, 0, none⟩) l.length c)).run P w = .ok (vStr l) w :=
  run_convert_bytes_back w src dst e ⟨g, 0, none⟩ c l hs he hd (fun i hi => by
    rw [Addr.add_lit, Nat.zero_add]
    refine (h.cell i).trans ?_
    simp [byteVals, hi])
theorem fixRow_full (n : Nat) : fixRow n 8 = eFix n := rfl
theorem fixAt_val (n j : Nat) : (n : Int) / 2 ^ (56 - 8 * j) % 256 = ((fixAt n j).toNat : Int) := by
  unfold fixAt
  rw [UInt8.toNat_ofNat', show (2 : Nat) ^ 8 = 256 by decide]
  rw [Int.natCast_emod, Int.natCast_ediv, Int.natCast_pow]
  rfl

set_option maxHeartbeats 1600000 in
theorem fixRight_w (w : World) : Calls Try.prog 167 #[vInt 8] w fun r w' => r = .returned (.bool true) ∧ w = w' := by
  refine calls_hide fun K hK => ?_
  go_enter Try.func167, Try.ntmps167
  go_wp2
  exact hK.out _ _ ⟨rfl, rfl⟩

set_option maxRecDepth 100000 in
set_option maxHeartbeats 1600000 in
theorem fixPut_w (w : World) (ok : Nat → Prop) (b m : Nat) (R : List Nat) (out : Bytes) (e : Int) (l : Value) (ns : List Nat) (hns : ∀ n ∈ ns, n < 18446744073709551616) (h : Pen w b m R out e) (hl : Kd.u64.At w ok l ns) (hok : ∀ k, ok k → k ∉ b :: R) :
    Calls Try.prog 130 #[vPtr b, vInt 8, l] w fun r w' => r = .returned vUnit ∧ ∃ R' out' e', Wr w w' b m R out e (ns.map eFix).flatten R' out' e' := by
  refine calls_hide fun K hK => ?_
  obtain ⟨A, c, rfl, hc, hm, hrow⟩ := hl
  unfold maxLen at hm
  go_enter Try.func130, Try.ntmps130
  go_wp2_with (go_at_call 167; refine (fixRight_w _).mono ?_; rintro e w' ⟨rfl, rfl⟩)
  go_loopw [17] (fun i wr => ∃ k R1 o1 e1, i = vInt k ∧ k ≤ ns.length ∧ Wr w wr b m R out e ((ns.take k).map eFix).flatten R1 o1 e1) (fun i _ => ns.length - (intOf i).toNat)
  case atStart => exact ⟨0, R, out, e, rfl, by omega, by simpa using Wr.refl h⟩
  case round =>
    obtain ⟨k, R1, o1, e1, rfl, hk, hw⟩ := hrel
    by_cases hlt : k < ns.length
    · obtain ⟨g, o, rfl, hg, hgl⟩ := hrow.addr (by omega)
      have c0 := Kd.u64_cell (hrow.ch hw.ch (fun k h1 _ => hok k h1)) hlt
      have htk : ((ns.take (k + 1)).map eFix).flatten = ((ns.take k).map eFix).flatten ++ [eFix ns[k]].flatten := by rw [List.take_succ_eq_append_getElem hlt, List.map_append, List.flatten_append]; simp
      have hn := hns _ (List.getElem_mem hlt)
      have hp := hw.pen
      go_wp2
      go_loopw [9, 32] (fun _ i wq => ∃ j : Nat, i = vInt j ∧ j ≤ 8 ∧ Blk wq wr.heap.size 225 (byteVals (fixRow ns[k] j)) ∧ Ch [] wr wq) (fun _ i _ => 8 - (intOf i).toNat)
      case atStart => exact ⟨0, rfl, by decide, Blk.new wr _ (byteVals (fixRow ns[k] 0)), (Ch.refl _ _).alloc _⟩
      case round =>
        obtain ⟨j, rfl, hj, hbx, hch⟩ := hrel
        by_cases hj8 : j < 8
        · have hj8' : (j : Int) < 8 := by omega
          have f0 := hbx.frozen j
          obtain ⟨z, hz⟩ : ∃ z, (byteVals (fixRow ns[k] j))[j]? = some z := ⟨_, List.getElem?_eq_getElem (byteVals_lt _ _ hj8)⟩
          have x0 := hbx.cell j
          rw [hz] at x0
          have q1 : IntKind.i64.wrap (8 * (j : Int)) = 8 * j := IntWalk.i64_in _ (by omega)
          have q2 : IntKind.i64.wrap (56 - 8 * (j : Int)) = 56 - 8 * j := IntWalk.i64_in _ (by omega)
          have q3 := fixAt_val ns[k] j
          have hset := hbx.set_ j (vByte (fixAt ns[k] j).toNat)
          rw [fixRow_set] at hset
          obtain ⟨y, hy⟩ : ∃ y, fixAt ns[k] j = y := ⟨_, rfl⟩
          rw [hy] at q3 hset
          clear hy
          go_wp2
          go_roundw
          case rel => exact ⟨j + 1, by go_num, by omega, hset, hch.setCell (.inr (Nat.le_refl _)) _⟩
          case measure => simp [intOf]; omega
        · obtain rfl : j = 8 := by omega
          have hfull : fixRow ns[k] 8 = eFix ns[k] := fixRow_full _
          rw [hfull] at hbx
          have hl8 := eFix_len ns[k]
          obtain ⟨t8, ht8⟩ : ∃ t8, eFix ns[k] = t8 := ⟨_, rfl⟩
          rw [ht8] at hbx hl8 htk
          have ht := hbx.text (P := Try.prog) 159 9 5 8 Try.underlying159 Try.underlying5 Try.underlying9
          rw [hl8] at ht
          have hp2 := hp.ch0 hch
          go_wp2_with (first
            | (go_at_call 127; refine (penText_w _ _ _ _ _ _ _ _ [t8] (by simp; omega) (hp2.ch0 ((Ch.refl _ _).alloc _)) (boxed Kd.str _ 9 (by simp) (kd_str _)) (hp2.boxed (by simp))).mono ?_; rintro e w'' ⟨rfl, R3, o3, e3, hW3⟩))
          go_roundw
          case rel => exact ⟨k + 1, _, _, _, by go_num, by omega, hw.seq' (hW3.box.pre hch) htk⟩
          case measure => simp [intOf]; omega
    · go_wp2
      go_end0
      have : ns.take k = ns := List.take_of_length_le (by omega)
      rw [this] at hw
      exact hK.out _ _ ⟨rfl, R1, o1, e1, hw⟩
end Go.Proofs.Ytmojbpgabpbacaa
