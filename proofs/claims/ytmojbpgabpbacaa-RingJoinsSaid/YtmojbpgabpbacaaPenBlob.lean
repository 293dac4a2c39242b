/- Package blob: Put, PutCount, PutFlag. -/
import Derived.Test.YtmojbpgabpbacaaPenVar
namespace Go.Proofs.Ytmojbpgabpbacaa
open Go.RowKit

def eBlob (s : Bytes) : Bytes := eVar s.length ++ s
def eFlag (x : Bool) : Bytes := [if x then 1 else 0]

set_option maxHeartbeats 1600000 in
theorem putCount_w (w : World) (b m : Nat) (R : List Nat) (out : Bytes) (e : Int) (x n : Nat) (hn : n ≤ x) (hx : x ≤ 1000000) (h : Pen w b m R out e) :
    Calls Try.prog 76 #[vPtr b, vInt x, vInt n] w fun r w' => r = .returned vUnit ∧ ∃ R' out' e', Wr w w' b m R out e (eVar n) R' out' e' := by
  refine calls_hide fun K hK => ?_
  have q0 : ¬ (n : Int) < 0 := by omega
  have q1 : ¬ (x : Int) < n := by omega
  have q2 : ((n : Int) % 18446744073709551616) = n := by omega
  go_enter Try.func76, Try.ntmps76
  by_cases hn0 : 0 < n
  · have q3 : (0 : Int) < n := by omega
    go_wp2_with (first
      | (go_at_call 78; refine (varPut_w _ _ _ _ _ _ _ _ [n] (by simp; omega) (h.ch0 ((Ch.refl _ _).alloc _)) (boxed Kd.u64 _ 23 (by simp) (kd_u64 _)) (h.boxed (by simp))).mono ?_; rintro e w' ⟨rfl, R2, o2, e2, hW⟩))
    go_end0
    exact hK.out _ _ ⟨rfl, _, _, _, by simpa using hW.box⟩
  · have q3 : ¬ (0 : Int) < n := by omega
    go_wp2_with (first
      | (go_at_call 78; refine (varPut_w _ _ _ _ _ _ _ _ [n] (by simp; omega) (h.ch0 ((Ch.refl _ _).alloc _)) (boxed Kd.u64 _ 23 (by simp) (kd_u64 _)) (h.boxed (by simp))).mono ?_; rintro e w' ⟨rfl, R2, o2, e2, hW⟩))
    go_end0
    exact hK.out _ _ ⟨rfl, _, _, _, by simpa using hW.box⟩

set_option maxHeartbeats 1600000 in
theorem putFlag_w (w : World) (b m : Nat) (R : List Nat) (out : Bytes) (e : Int) (x : Bool) (h : Pen w b m R out e) :
    Calls Try.prog 139 #[vPtr b, .bool x] w fun r w' => r = .returned vUnit ∧ ∃ R' out' e', Wr w w' b m R out e (eFlag x) R' out' e' := by
  refine calls_hide fun K hK => ?_
  cases x
  · go_enter Try.func139, Try.ntmps139
    go_wp2_with (first
      | (go_at_call 129; refine (penByte_w _ _ _ _ _ _ _ _ [0] (h.ch0 ((Ch.refl _ _).alloc _)) (boxed Kd.u8 _ 5 (by simp) (kd_u8 0)) (h.boxed (by simp))).mono ?_; rintro e w' ⟨rfl, R2, o2, e2, hW⟩))
    go_end0
    exact hK.out _ _ ⟨rfl, _, _, _, hW.box⟩
  · go_enter Try.func139, Try.ntmps139
    go_wp2_with (first
      | (go_at_call 129; refine (penByte_w _ _ _ _ _ _ _ _ [1] (h.ch0 ((Ch.refl _ _).alloc _)) (boxed Kd.u8 _ 5 (by simp) (kd_u8 1)) (h.boxed (by simp))).mono ?_; rintro e w' ⟨rfl, R2, o2, e2, hW⟩))
    go_end0
    exact hK.out _ _ ⟨rfl, _, _, _, hW.box⟩

set_option maxHeartbeats 1600000 in
theorem blobPut_w (w : World) (ok : Nat → Prop) (b m : Nat) (R : List Nat) (out : Bytes) (e : Int) (x : Nat) (l : Value) (ts : List Bytes) (hx : x ≤ 1000000) (hts : ∀ t ∈ ts, t.length ≤ x) (h : Pen w b m R out e) (hl : Kd.str.At w ok l ts) (hok : ∀ k, ok k → k ∉ b :: R) :
    Calls Try.prog 77 #[vPtr b, vInt x, l] w fun r w' => r = .returned vUnit ∧ ∃ R' out' e', Wr w w' b m R out e (ts.map eBlob).flatten R' out' e' := by
  refine calls_hide fun K hK => ?_
  obtain ⟨A, c, rfl, hc, hm, hrow⟩ := hl
  unfold maxLen at hm
  go_enter Try.func77, Try.ntmps77
  go_wp2
  go_loopw [10] (fun i wr => ∃ k R1 o1 e1, i = vInt k ∧ k ≤ ts.length ∧ Wr w wr b m R out e ((ts.take k).map eBlob).flatten R1 o1 e1) (fun i _ => ts.length - (intOf i).toNat)
  case atStart => exact ⟨0, R, out, e, rfl, by omega, by simpa using Wr.refl h⟩
  case round =>
    obtain ⟨k, R1, o1, e1, rfl, hk, hw⟩ := hrel
    by_cases hlt : k < ts.length
    · obtain ⟨g, o, rfl, hg, hgl⟩ := hrow.addr (by omega)
      have c0 := Kd.str_cell (hrow.ch hw.ch (fun k h1 _ => hok k h1)) hlt
      have htk : ((ts.take (k + 1)).map eBlob).flatten = ((ts.take k).map eBlob).flatten ++ ([eVar ts[k].length].flatten ++ [ts[k]].flatten) := by rw [List.take_succ_eq_append_getElem hlt, List.map_append, List.flatten_append]; simp [eBlob]
      have hlen := hts _ (List.getElem_mem hlt)
      have q0 : ¬ (x : Int) < (ts[k].length : Int) := by omega
      have q2 : ((ts[k].length : Int) % 18446744073709551616) = ts[k].length := by omega
      have hp := hw.pen
      go_wp2_with (first
        | (go_at_call 78; refine (varPut_w _ _ _ _ _ _ _ _ [ts[k].length] (by simp; omega) (hp.ch0 ((Ch.refl _ _).alloc _)) (boxed Kd.u64 _ 23 (by simp) (kd_u64 _)) (hp.boxed (by simp))).mono ?_; rintro e w' ⟨rfl, R2, o2, e2, hW⟩; have hp2 := hW.pen)
        | (go_at_call 127; refine (penText_w _ _ _ _ _ _ _ _ [ts[k]] (by simp; omega) (hp2.ch0 ((Ch.refl _ _).alloc _)) (boxed Kd.str _ 9 (by simp) (kd_str _)) (hp2.boxed (by simp))).mono ?_; rintro e w'' ⟨rfl, R3, o3, e3, hW3⟩))
      all_goals
        go_roundw
        case rel => exact ⟨k + 1, _, _, _, by go_num, by omega, hw.seq' (hW.box.seq hW3.box) (by simpa using htk)⟩
        case measure => simp [intOf]; omega
    · go_wp2
      go_end0
      have : ts.take k = ts := List.take_of_length_le (by omega)
      rw [this] at hw
      exact hK.out _ _ ⟨rfl, R1, o1, e1, hw⟩
end Go.Proofs.Ytmojbpgabpbacaa
