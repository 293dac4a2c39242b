/- spencelaw22.RingJoins holds of every two rings, key and number: no premise. -/
import Derived.Test.YtmojbpgabpbacaaRows
import Derived.Test.YtmojbpgabpbacaaLawJoin
import Derived.Test.YtmojbpgabpbacaaOpenMem
namespace Go.Proofs.Ytmojbpgabpbacaa
open Go.ChangeShapes Go.WideShapes Go.ChangeAt Go.RowKit

theorem ownJ : ownKnob Try.prog.godebug = none := by kernel_rfl
theorem laidJ : laidOutB Try.prog = true := by kernel_rfl

set_option maxRecDepth 100000 in
theorem ringJoins_contract (H : Type) (enc : TypeId × Value → H) (W : World) (base : Nat) (args : Array Value) (ds gs : List (DataW H)) (before : List MemPlace)
    (hval : ∀ (j : Nat) t v, Try.f4.params[j]? = some t → args[j]? = some v → Value.okWide Try.prog W .any base t v)
    (hW : DataW.Whole enc Try.prog Try.f4.params.toList Rows.ringJoinsSpec.vars false W args.toList ds gs before)
    (hsz : (DataW.weightsEach Try.prog (Try.f4.params.toList ++ Rows.ringJoinsSpec.plain.varTypes Try.prog) (ds ++ gs)).all (· ≤ reachBytes) = true) :
    Calls Try.prog 4 args W fun e W' => ∃ v, e = .returned v ∧ Rows.ringJoinsSpec.post enc Try.prog Try.f4 false true false false W args v W' := by
  have hW' := hW
  obtain ⟨p, q, hA0, hV, rfl, hfz, hnd⟩ := hW
  have hA : DataW.TrodAll enc Try.prog W 0 (fun _ => true) true Try.f4.params.toList args.toList ds p := hA0
  rw [Try.params4] at hA hval hsz
  obtain ⟨v0, vs0, d0, ds0, p0, q0, hargs, rfl, rfl, h0, r0⟩ := trodAll_cons hA
  obtain ⟨v1, vs1, d1, ds1, p1, q1, rfl, rfl, rfl, h1, r1⟩ := trodAll_cons r0
  obtain ⟨v2, vs2, d2, ds2, p2, q2, rfl, rfl, rfl, h2, r2⟩ := trodAll_cons r1
  obtain ⟨v3, vs3, d3, ds3, p3, q3, rfl, rfl, rfl, h3, r3⟩ := trodAll_cons r2
  obtain ⟨rfl, rfl, rfl⟩ := trodAll_nil r3
  obtain rfl : args = #[v0, v1, v2, v3] := by cases args; simp_all
  obtain ⟨rfl, rfl⟩ := trodVars_none hV
  have hv0 := hval 0 22 v0 rfl rfl
  have hv1 := hval 1 22 v1 rfl rfl
  have hsz' : (DataW.weightsEach Try.prog [22, 22, 23, 3] [d0, d1, d2, d3]).all (· ≤ reachBytes) = true := hsz
  have ha := (opens_mems W).arg_slice Try.underlying22 hv0 h0 hsz' (j := 0) rfl rfl
  have hb := (opens_mems W).arg_slice Try.underlying22 hv1 h1 hsz' (j := 1) rfl rfl
  obtain ⟨l, hat, hg, _⟩ := ha
  obtain ⟨l2, hat2, hg2, _⟩ := hb
  obtain ⟨key, rfl, rfl, rfl, wk⟩ := open_int Try.underlying23 (hval 2 _ v2 rfl rfl) h2
  obtain ⟨n, rfl, rfl, rfl, wn⟩ := open_int Try.underlying3 (hval 3 _ v3 rfl rfl) h3
  have hk : 0 ≤ key ∧ key ≤ 18446744073709551615 := by simpa [Lit.wf, IntKind.min, IntKind.max, IntKind.signed, IntKind.bits] using wk
  obtain ⟨k, rfl⟩ := Int.eq_ofNat_of_zero_le hk.1
  clear hA0
  simp only [List.append_nil] at hW'
  have hlt : ∀ x ∈ p0 ++ p1, x.block < W.heap.size := fun x hx => by simpa using hW'.lt x (by simpa using hx)
  refine (ringJoins_w W _ v0 v1 l l2 k n (by omega) (fun x hx => (hg x hx).2) (fun x hx => (hg2 x hx).2) (fun x hx => (hg x hx).1) (fun x hx => (hg2 x hx).1) hat (hat2.mono fun _ _ => ?_)).mono fun e W' ⟨he, hch⟩ => ?_
  · trivial
  subst he
  have hb := hch.below
  refine ⟨_, rfl, post_of_ch (pa := p0 ++ p1) (pv := []) hW' (fun _ _ _ => trodAll_cons_mk (shut_bool Try.underlying4 _) trodAll_mk0) (fun sp hsp => ?_) (fun _ _ => rfl) (by simp) hb (ok_one (by kernel_rfl) rfl (okWide_bool_mk Try.underlying4 _))⟩
  have t0 := WideElems.Trod_stays laidJ (by kernel_rfl) (of_decide_eq_true (by kernel_rfl)) h0 (fun x hx => hb.same (hlt x (by simp [hx]))) (fun x hx => hsp x (by simp [hx]))
  have t1 := WideElems.Trod_stays laidJ (by kernel_rfl) (of_decide_eq_true (by kernel_rfl)) h1 (fun x hx => hb.same (hlt x (by simp [hx]))) (fun x hx => hsp x (by simp [hx]))
  have t3 := trodAll_cons_mk t0 (trodAll_cons_mk t1 (trodAll_cons_mk (shut_int Try.underlying23 wk) (trodAll_cons_mk (shut_int Try.underlying3 wn) trodAll_mk0)))
  simp only [List.append_nil] at t3
  exact t3

set_option maxRecDepth 100000 in
theorem ringJoins_lifted (os : Os) (started : os.Started) (H : Type) (enc : TypeId × Value → H) :
    ReturnsInHanded {} Try.checked os 4 .any (Rows.ringJoinsSpec.pre6 enc Try.prog Try.f4 Rows.ringJoinsRow.domain false) (Rows.ringJoinsSpec.post enc Try.prog Try.f4 false true false false) := by
  refine returnsInHanded_of_change_sized (C := Try.checked) ownJ started (by kernel_rfl) Try.func4
    (ChangeSpec.witness6 (enc := enc) (C := Try.checked) false ⟨#[], #[.slice none 0 0, .slice none 0 0, .int .u64 0, .int .i64 0], []⟩ 8 (by kernel_rfl) (by kernel_rfl) (by kernel_rfl) (by kernel_rfl)) ?_
  intro W base args ds gs before hval hW _ hsz _
  exact ringJoins_contract H enc W base args ds gs before hval hW hsz

theorem ringJoins_holds : Rows.RingJoinsSaid :=
  OpenClaim.holds_of_wide 4 Try.f4 rfl rfl rfl rfl rfl rfl rfl ⟨rfl, rfl, rfl, rfl, rfl⟩ rfl rfl rfl rfl rfl (by kernel_rfl) Try.func4 (by kernel_rfl)
    (of_decide_eq_true (by kernel_rfl)) (by unfold Func.isWrapper; first | (rw [if_pos (by decide +kernel)]; kernel_rfl) | (rw [if_neg (by decide +kernel)]; exact ⟨rfl, rfl⟩))
    (fun os started H enc _ => ringJoins_lifted os started H enc)
#print axioms ringJoins_holds
end Go.Proofs.Ytmojbpgabpbacaa
