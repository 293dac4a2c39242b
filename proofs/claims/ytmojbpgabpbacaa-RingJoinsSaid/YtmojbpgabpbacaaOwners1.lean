/- ring.Owners: the places of those that are up. -/
import Derived.Test.YtmojbpgabpbacaaOwnTail
namespace Go.Proofs.Ytmojbpgabpbacaa
open Go.RowKit

def placesOf (x : Member) : List Place := if x.state = 1 then x.tokens.map (fun t => ⟨t, x.name⟩) else []
def places (l : List Member) : List Place := (l.map placesOf).flatten
theorem Try.infoPlace : (Try.prog.info? 87).map (fun i => (i.zero, i.size, i.bytes)) = some (some (.agg #[.int .u64 0, .string ⟨#[]⟩]), 2, 24) := by kernel_rfl
theorem places_len {l : List Member} (h : ∀ x ∈ l, x.tokens.length ≤ 16) : (places l).length ≤ l.length * 16 := by
  induction l with
  | nil => simp [places]
  | cons x r ih =>
    have h1 := h x (by simp)
    have h2 := ih (fun y hy => h y (by simp [hy]))
    have h3 : (placesOf x).length ≤ 16 := by unfold placesOf; split <;> simp; omega
    simp only [places, List.map_cons, List.flatten_cons, List.length_append, List.length_cons] at h2 ⊢
    omega

set_option maxRecDepth 100000 in
set_option maxHeartbeats 3200000 in
theorem owners_w (w : World) (ok : Nat → Prop) (v : Value) (l : List Member) (key : Nat) (n : Int) (hck : chkRing l = 0) (h : Kd.mem.At w ok v l) :
    Calls Try.prog 10 #[v, vU64 key, .int .i64 n] w fun r w' => ∃ (u : Value) (Z : List Tg) (i : Nat), r = .returned u ∧ Sorted (places l) Z ∧ First (pl Z) key i ∧ Kd.str.At w' (fun k => w.heap.size + 1 ≤ k) u (picks n (turn (pl Z) i (pl Z).length)) ∧ Ch [] w w' := by
  refine calls_hide fun K hK => ?_
  have h := h.bound
  obtain ⟨A, c, rfl, hc, hm, hrow⟩ := h
  have hat : Kd.mem.At w (fun k => ok k ∧ k < w.heap.size) (.slice A l.length c) l := ⟨A, c, rfl, hc, hm, hrow⟩
  unfold maxLen at hm
  obtain ⟨h32, hall⟩ := chkRing_ok hck
  have hA := (Ch.refl [] w).alloc (.cells #[.int .i64 n] 3)
  have hBn := Blk.new w 3 [.int .i64 n]
  refine (callsIn_wide (n := 8)).1 ?_
  refine callsIn_of_wp_marks Try.func10 rfl trivial ?_ rfl
  simp only [Try.ntmps10, List.size_toArray, List.length_cons, List.length_nil, Nat.reduceAdd, Nat.reduceSub, Array.replicate_succ, Array.replicate_zero, List.push_toArray, List.append_toArray, List.nil_append, List.cons_append]
  refine wpIn_wide.2 ?_
  go_upto_region 3 with (first
    | (go_at_call 38; refine (ringCheck_w _ _ _ _ (hat.ch0 hA)).mono ?_; rintro e w1 ⟨rfl, hch1⟩; rw [hck]))
  have hA1 := hA.trans0 hch1
  have hB1 := hBn.ch0 hch1
  go_cut [7] from 8 (fun av wc => av = .slice none 0 0 ∧ wc = w1)
  case first =>
    go_wp2
    go_meet
    exact ⟨rfl, rfl⟩
  case rest =>
  obtain ⟨rfl, rfl⟩ := hcut
  apply_assumption
  go_step
  go_cut [7] from 8 (fun av wc => Kd.place.Own 87 wc (w.heap.size + 1) (fun k => w.heap.size + 1 ≤ k) av (places l) ∧ Blk wc w.heap.size 3 [.int .i64 n] ∧ Ch [] w wc)
  case rest =>
    obtain ⟨hown, hBn, hch⟩ := hcut
    obtain ⟨Av, cv, rfl⟩ := hown.form
    have hpb := places_len (l := l) (fun y hy => (hall y hy).2.2.2.2)
    have hZl : (places l).length ≤ 1000000 := by omega
    have hBl := hBn.lt
    apply_assumption
    exact ownersTail_w w _ (w.heap.size + 1) w.heap.size (places l) Av cv key n K hZl hown hBn (by omega) (by omega) (by omega) hch (hide fun v Z i wz h1 h2 h3 h4 => hK.out _ _ ⟨v, Z, i, rfl, h1, h2, h3, h4⟩) _ _ _ _ _ _ _ _ _ _ _ _ _ _ _ _ _ _ _ _ _ _ _ _ _ _ _ _ _ _ _ _ _ _ _ _ _ _ _ _ _ _ _ _ _ _ _ _ _ _ _ _ _ _ _ _ _ _ _ _
  case first =>
  go_wp2
  go_loopw [7, 19] (fun av iv wr => ∃ k : Nat, iv = vInt k ∧ k ≤ l.length ∧ Kd.place.Own 87 wr (w.heap.size + 1) (fun k => w.heap.size + 1 ≤ k) av (places (l.take k)) ∧ Blk wr w.heap.size 3 [.int .i64 n] ∧ Ch [] w wr) (fun _ i _ => l.length - (intOf i).toNat)
  case atStart => exact ⟨0, rfl, by omega, Kd.Own.nil _ _ _ _ _, hB1, hA1⟩
  case round =>
    clear hA1 hB1 hA hBn hch1
    obtain ⟨k, rfl, hk, hown, hBn, hch⟩ := hrel
    obtain ⟨Av, cv, rfl⟩ := hown.form
    by_cases hlt : k < l.length
    · obtain ⟨g, o, rfl, hg, hgl⟩ := hrow.addr (by omega)
      obtain ⟨T, m, c0, c1, c2, c3, ht⟩ := Kd.mem_cells hrow hlt
      have c0 := hch.cell c0 (by simp)
      have c1 := hch.cell c1 (by simp)
      have c2 := hch.cell c2 (by simp)
      have c3 := hch.cell c3 (by simp)
      obtain ⟨x, hx⟩ : ∃ x, l[k] = x := ⟨_, rfl⟩
      have hxl : x ∈ l := hx ▸ List.getElem_mem hlt
      have htk : places (l.take (k + 1)) = places (l.take k) ++ placesOf x := by
        rw [List.take_succ_eq_append_getElem hlt, hx]; simp [places]
      rw [hx] at c0 c1 c2 c3 ht
      have hxo := hall _ hxl
      clear hx
      have hpl := places_len (l := l.take k) (fun y hy => (hall y (List.mem_of_mem_take hy)).2.2.2.2)
      rw [List.length_take] at hpl
      have hAx := (Ch.refl [] wr).alloc (.cells #[vStr x.name, vU64 x.epoch, vByte x.state, .slice T x.tokens.length m] 31)
      have hBx := Blk.new wr 31 [vStr x.name, vU64 x.epoch, vByte x.state, .slice T x.tokens.length m]
      have hsz := hch.size
      have hBl := hBn.lt
      have hnb : ∀ b, (Value.slice Av (places (l.take k)).length cv).ownBlock = some b → b ≠ wr.heap.size := fun b hb e => by have := hown.block b hb; omega
      have hownx := hown.ch0 hAx
      have hBnx := hBn.ch0 hAx
      have hchx := hch.trans0 hAx
      obtain ⟨nm, ep, st, tk⟩ := x
      dsimp only at c0 c1 c2 c3 ht hBx hAx hownx hBnx hchx hxo
      by_cases hs : st = 1
      · subst hs
        go_wp2
        go_loopw [7, 26] (fun av iv wq => ∃ (j : Nat) (ps : List Place), iv = vInt j ∧ j ≤ tk.length ∧ Hid (ps = (tk.take j).map (fun t => (⟨t, nm⟩ : Place))) ∧ ps.length ≤ j ∧ Kd.place.Own 87 wq (w.heap.size + 1) (fun k => w.heap.size + 1 ≤ k) av (places (l.take k) ++ ps) ∧ (∀ b, av.ownBlock = some b → b ≠ wr.heap.size) ∧ Blk wq w.heap.size 3 [.int .i64 n] ∧ Blk wq wr.heap.size 31 [vStr nm, vU64 ep, vByte 1, .slice T tk.length m] ∧ Ch [] w wq) (fun _ i _ => tk.length - (intOf i).toNat)
        case atStart => exact ⟨0, [], rfl, by omega, hide (by simp), by simp, by rw [List.append_nil]; exact hownx, hnb, hBnx, hBx, hchx⟩
        case round =>
          clear hBx hownx hBnx hchx hnb hAx hown hBn hch
          obtain ⟨j, ps, rfl, hj, hps, hpsl, hown, hnb, hBn, hBx, hch⟩ := hrel
          obtain ⟨A1, c1', rfl⟩ := form2 hown
          by_cases hjl : j < tk.length
          · obtain ⟨g2, o2, rfl⟩ : ∃ g o, T = some ⟨g, o, none⟩ := by
              obtain ⟨T0, m0, hv, _, _, hr⟩ := ht
              injection hv with e1 e2 e3
              subst e1
              obtain ⟨g, o, e, h1, h2⟩ := hr.addr (by omega)
              exact ⟨g, o, e⟩
            obtain ⟨T0, m0, hv, _, _, hr⟩ := ht.ch0 hch
            injection hv with e1 e2 e3
            subst e1 e3
            have d0 := Kd.u64_cell hr hjl
            have x0 := hBx.cell 0
            have x2 := hBx.cell 2
            obtain ⟨tv, htv⟩ : ∃ t, tk[j] = t := ⟨_, rfl⟩
            have hps' := hide (show (tk.take (j + 1)).map (fun t => (⟨t, nm⟩ : Place)) = (tk.take j).map (fun t => (⟨t, nm⟩ : Place)) ++ [⟨tv, nm⟩] by
              rw [List.take_succ_eq_append_getElem hjl, htv]; simp)
            rw [htv] at d0
            have HL := hide (show (places (l.take k) ++ ps ++ [(⟨tv, nm⟩ : Place)]).length = (places (l.take k)).length + (ps.length + 1) by simp only [List.length_append, List.length_singleton]; omega)
            go_wp2_with (first
              | (at_builtin; refine Kd.wpList_append Kd.place rfl (.tmp 33) (.tmp 38) 85 87 _ 24 rfl Try.underlying85 Try.infoPlace rfl (by decide) (by decide) (v := .slice A1 ((places (l.take k)).length + ps.length) c1') rfl rfl rfl (p := ⟨tv, nm⟩) (cs := [vU64 tv, vStr nm]) rfl hown (by have := hBx.lt; omega) (by simp only [List.length_append]; omega) ?_; intro v1 w7 hown7 hch7 hat7; have hB7 := hBx.ch hch7 (fun hm => hnb _ (by simpa using hm) rfl); have hn7 := hBn.ch hch7 (fun hm => by have := hown.block _ (by simpa using hm); omega); obtain ⟨A7, c7, rfl⟩ := hown7.form; rw [HL.out] at hown7 hat7))
            go_roundw
            case rel =>
              refine ⟨j + 1, ps ++ [⟨tv, nm⟩], by go_num, by omega, hide (by rw [hps'.out, hps.out]), by simp; omega, by rw [← List.append_assoc]; exact hown7, fun b hb e => ?_, hn7, hB7, hch.trans hch7 (fun t ht => .inr (by have := hown.block t (by simpa using ht); omega))⟩
              rcases hat7 with h7 | ⟨b7, h7, h8⟩
              · exact hnb b (h7 ▸ hb) e
              · rw [h7] at hb
                injection hb with hb
                have := hBx.lt
                omega
            case measure => simp [intOf]; omega
          · go_wp2
            go_roundw
            case rel =>
              obtain rfl : j = tk.length := by omega
              refine ⟨k + 1, by go_num, by omega, ?_, hBn, hch⟩
              have e : ps = placesOf ⟨nm, ep, 1, tk⟩ := by rw [hps.out, List.take_length]; rfl
              rw [htk, ← e]
              exact hown
            case measure => simp [intOf]; omega
      · have q : ((st : Int) == 1) = false := by simp; omega
        go_wp2
        go_loopw [7, 26] (fun av iv wq => ∃ (j : Nat), iv = vInt j ∧ j ≤ tk.length ∧ Kd.place.Own 87 wq (w.heap.size + 1) (fun k => w.heap.size + 1 ≤ k) av (places (l.take k)) ∧ (∀ b, av.ownBlock = some b → b ≠ wr.heap.size) ∧ Blk wq w.heap.size 3 [.int .i64 n] ∧ Blk wq wr.heap.size 31 [vStr nm, vU64 ep, vByte st, .slice T tk.length m] ∧ Ch [] w wq) (fun _ i _ => tk.length - (intOf i).toNat)
        case atStart => exact ⟨0, rfl, by omega, hownx, hnb, hBnx, hBx, hchx⟩
        case round =>
          clear hBx hownx hBnx hchx hnb hAx hown hBn hch
          obtain ⟨j, rfl, hj, hown, hnb, hBn, hBx, hch⟩ := hrel
          obtain ⟨A1, c1', rfl⟩ := hown.form
          by_cases hjl : j < tk.length
          · obtain ⟨g2, o2, rfl⟩ : ∃ g o, T = some ⟨g, o, none⟩ := by
              obtain ⟨T0, m0, hv, _, _, hr⟩ := ht
              injection hv with e1 e2 e3
              subst e1
              obtain ⟨g, o, e, h1, h2⟩ := hr.addr (by omega)
              exact ⟨g, o, e⟩
            obtain ⟨T0, m0, hv, _, _, hr⟩ := ht.ch0 hch
            injection hv with e1 e2 e3
            subst e1 e3
            have d0 := Kd.u64_cell hr hjl
            have x0 := hBx.cell 0
            have x2 := hBx.cell 2
            obtain ⟨tv, htv⟩ : ∃ t, tk[j] = t := ⟨_, rfl⟩
            rw [htv] at d0
            go_wp2
            go_roundw
            case rel => exact ⟨j + 1, by go_num, by omega, hown, hnb, hBn, hBx, hch⟩
            case measure => simp [intOf]; omega
          · go_wp2
            go_roundw
            case rel =>
              obtain rfl : j = tk.length := by omega
              refine ⟨k + 1, by go_num, by omega, ?_, hBn, hch⟩
              have e : placesOf ⟨nm, ep, st, tk⟩ = [] := if_neg hs
              rw [htk, e, List.append_nil]
              exact hown
            case measure => simp [intOf]; omega
    · have htk : l.take k = l := List.take_of_length_le (by omega)
      simp only [htk] at hown ⊢
      go_wp2
      go_meet
      exact ⟨hown, hBn, hch⟩
end Go.Proofs.Ytmojbpgabpbacaa
