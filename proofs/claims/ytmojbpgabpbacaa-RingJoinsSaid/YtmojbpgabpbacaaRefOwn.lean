/- spenceref22.Owners. -/
import Derived.Test.YtmojbpgabpbacaaNear
import Derived.Test.YtmojbpgabpbacaaRefJoin2
namespace Go.Proofs.Ytmojbpgabpbacaa
open Go.RowKit

set_option maxRecDepth 100000 in
set_option maxHeartbeats 6400000 in
theorem refOwners_w (w : World) (ok : Nat → Prop) (v : Value) (l : List Member) (key : Nat) (n : Int) (hkey : key < 18446744073709551616) (nl : ∀ x ∈ l, memNums x) (la : ∀ x ∈ l, x.name.length ≤ 140737488351232) (Z : List Tg) (i : Nat) (hZ : chkRing l = 0 → Sorted (places l) Z ∧ First (pl Z) key i) (h : Kd.mem.At w ok v l) :
    Calls Try.prog 16 #[v, vU64 key, .int .i64 n] w fun r w' => ∃ u, r = .returned u ∧ Kd.str.At w' (fun k => w.heap.size ≤ k) u (if chkRing l = 0 then picks n (turn (pl Z) i (pl Z).length) else []) ∧ Ch [] w w' := by
  refine calls_hide fun K hK => ?_
  have h := h.bound
  have h0 := h
  by_cases hc : chkRing l = 0
  · rw [if_pos hc] at hK
    obtain ⟨hZ1, hZ2⟩ := hZ hc
    obtain ⟨l32, hall⟩ := chkRing_ok hc
    have htok : ∀ p ∈ places l, p.token < 18446744073709551616 := fun p hp => by
      unfold places at hp
      rw [List.mem_flatten] at hp
      obtain ⟨q, hq, hpq⟩ := hp
      obtain ⟨x, hx, rfl⟩ := List.mem_map.1 hq
      unfold placesOf at hpq
      split at hpq
      · obtain ⟨t, ht, rfl⟩ := List.mem_map.1 hpq
        exact (nl x hx).2.2 t ht
      · cases hpq
    have HE := hide (fun (k : Nat) (out : List Bytes) (best : Int) (far : Nat) h1 h2 h3 => near_end (k := k) (out := out) (best := best) (far := far) (Eq.refl (places l).length) hZ1 hZ2 hkey htok h1 h2 h3)
    have HB : Hid (∀ k : Nat, (picks (k : Int) (turn (pl Z) i (pl Z).length)).length ≤ 32) := hide fun k => by
      have h1 := nodup_len _ (upNames l) (picks_nodup (k : Int) (turn (pl Z) i (pl Z).length)) (fun s hs => (turn_names hZ1 s).2 (picks_mem hs))
      have h2 : (upNames l).length = upN l := by simp [upNames, upN]
      have h3 := upN_le (l := l)
      omega
    obtain ⟨T, hT⟩ : ∃ T, turn (pl Z) i (pl Z).length = T := ⟨_, rfl⟩
    rw [hT] at hK HE HB
    clear hT hZ1 hZ2 hZ htok
    have LA := hide la
    have LN := hide (fun x hx => (hall x hx).1)
    have TN := hide (fun x hx => (nl x hx).2.2)
    have TL := hide (fun x hx => (hall x hx).2.2.2.2)
    clear la nl hall
    obtain ⟨A, c, rfl, hlc, hcm, hrow⟩ := h
    unfold maxLen at hcm
    have q0 : (chkRing l != 0) = false := by simp [hc]
    clear hc
    go_enter Try.func16, Try.ntmps16
    go_wp2_with (go_at_call 9; (with_reducible refine (refCheck22_w _ _ _ _ LA.out h0).mono ?_); rintro e w1 ⟨rfl, hch1⟩)
    go_loopw [7] (fun ov wr => ∃ out : List Bytes, Hid (picks (out.length : Int) T = out) ∧ (out.length : Int) ≤ max n 0 ∧ Kd.str.Own 9 wr w.heap.size (fun k => w.heap.size ≤ k) ov out ∧ Ch [] w wr) (fun ov _ => n.toNat - vlen ov)
    case atStart => exact ⟨[], hide (picks_zero (by simp) _), by simp; omega, Kd.Own.nil _ _ _ _ _, hch1⟩
    case round =>
      obtain ⟨out, ho, hon, hown, hcr⟩ := hrel
      obtain ⟨w0, rfl⟩ : ∃ w0, w0 = wr := ⟨_, rfl⟩
      obtain ⟨Av, cv, rfl⟩ := hown.form
      have hl32 : out.length ≤ 32 := by have := HB.out out.length; rwa [ho.out] at this
      obtain ⟨A6, c6, hv, hOc, hOm, hOrow⟩ := hown.at_ (fun k hk => (hown.block k hk).1)
      injection hv with e1 e2 e3
      subst e1 e3
      unfold maxLen at hOm
      by_cases hn : (out.length : Int) < n
      · go_wp2
        go_loopw [8, 9, 10] (fun bv fv iv wq => ∃ (I : Nat) (best : Int) (far : Nat), iv = vInt I ∧ I ≤ l.length ∧ bv = .int .i64 best ∧ fv = vU64 far ∧ Hid (Near l (places l) key out (places (l.take I)).length best far) ∧ Ch [] w0 wq) (fun _ _ iv _ => l.length - (intOf iv).toNat)
        case atStart => exact ⟨0, -1, 0, rfl, by omega, rfl, rfl, hide (Near.start 0), Ch.refl _ _⟩
        case round =>
          obtain ⟨I, best, far, rfl, hI, rfl, rfl, hnear, hcq⟩ := hrel
          obtain ⟨w00, rfl⟩ : ∃ w00, w00 = wr := ⟨_, rfl⟩
          by_cases hil : I < l.length
          · obtain ⟨g, o, rfl, _, _⟩ := hrow.addr (by omega)
            have i1 : (I : Int) < (l.length : Int) := by omega
            have hxI := hide (List.getElem?_eq_getElem hil)
            have hxm := hide (List.getElem_mem hil)
            obtain ⟨T0, m0, c0, c1, c2, c3, ht⟩ := Kd.mem_cells (hrow.ch0 (hcr.trans0 hcq)) hil
            obtain ⟨x, hx⟩ : ∃ x, l[I] = x := ⟨_, rfl⟩
            rw [hx] at c0 c1 c2 c3 ht hxI hxm
            clear hx
            obtain ⟨st, hst⟩ : ∃ st : Bool, ((x.state : Int) != 1) = st := ⟨_, rfl⟩
            have HST := hide hst
            go_wp2
            go_loopw [11, 12] (fun tv kv wq => ∃ k : Nat, kv = vInt k ∧ k ≤ out.length ∧ tv = .bool (st || decide (x.name ∈ out.take k)) ∧ Ch [] w0 wq) (fun _ kv _ => out.length - (intOf kv).toNat)
            case atStart => exact ⟨0, rfl, by omega, by simp, hcq⟩
            case round =>
              obtain ⟨k, rfl, hk, rfl, hcq3⟩ := hrel
              clear c0 c1 c2 c3
              obtain ⟨T3, m3, c0, c1, c2, c3, ht3⟩ := Kd.mem_cells (hrow.ch0 (hcr.trans0 hcq3)) hil
              have ex : l[I] = x := Option.some.inj ((List.getElem?_eq_getElem hil).symm.trans hxI.out)
              rw [ex] at c0 c1 c2 c3 ht3
              clear ex
              by_cases hkl : k < out.length
              · have hts := hide (List.take_succ_eq_append_getElem hkl)
                obtain ⟨g6, o6, rfl, _, _⟩ := hOrow.addr (by omega)
                have d0 := Kd.str_cell (hOrow.ch0 hcq3) hkl
                obtain ⟨s, hs⟩ : ∃ s, out[k] = s := ⟨_, rfl⟩
                rw [hs] at hts d0
                clear hs
                have k1 : (k : Int) < (out.length : Int) := by omega
                rcases hq : (st || decide (x.name ∈ out.take k)) with _ | _
                · have hq2 : decide (x.name ∈ out.take k) = false := by
                    rcases st with _ | _
                    · simpa using hq
                    · cases hq
                  have hst0 : st = false := by
                    rcases st with _ | _
                    · rfl
                    · cases hq
                  by_cases e : s = x.name
                  · have f0 : (s == x.name) = true := by simp [e]
                    have HQ2 : Hid ((st || decide (x.name ∈ out.take (k + 1))) = true) := hide (by rw [hts.out, ← e]; simp)
                    clear e hq hq2 hst0
                    go_wp2
                    go_quiet (fail)
                    go_wp2
                    go_roundw
                    case rel => exact ⟨k + 1, by go_num, by omega, by rw [← HQ2.out], by (repeat (first | assumption | exact Ch.refl _ _ | refine Ch.drewN ?_ _ | refine Ch.drew ?_))⟩
                    case measure => simp [intOf]; omega
                  · have f0 : (s == x.name) = false := by simp [e]
                    have HQ2 : Hid ((st || decide (x.name ∈ out.take (k + 1))) = false) := hide (by
                      rw [hts.out, hst0]
                      have h1 : x.name ∉ out.take k := by simpa using hq2
                      have h2 : ¬ x.name = s := fun h => e h.symm
                      simp [h1, h2])
                    clear e hq hq2 hst0
                    go_wp2
                    go_quiet (fail)
                    go_wp2
                    go_roundw
                    case rel => exact ⟨k + 1, by go_num, by omega, by rw [← HQ2.out], by (repeat (first | assumption | exact Ch.refl _ _ | refine Ch.drewN ?_ _ | refine Ch.drew ?_))⟩
                    case measure => simp [intOf]; omega
                · have HQ2 : Hid ((st || decide (x.name ∈ out.take (k + 1))) = true) := hide (by
                    rw [hts.out]
                    rcases st with _ | _
                    · have h1 : x.name ∈ out.take k := by simpa using hq
                      simp [h1]
                    · rfl)
                  clear hq
                  go_wp2
                  go_quiet (fail)
                  go_wp2
                  go_roundw
                  case rel => exact ⟨k + 1, by go_num, by omega, by rw [← HQ2.out], by (repeat (first | assumption | exact Ch.refl _ _ | refine Ch.drewN ?_ _ | refine Ch.drew ?_))⟩
                  case measure => simp [intOf]; omega
              · obtain rfl : k = out.length := by omega
                rw [List.take_length]
                obtain ⟨w3, rfl⟩ : ∃ w3, w3 = wr := ⟨_, rfl⟩
                have hlx := hide (TL.out x hxm.out)
                rcases hq : (st || decide (x.name ∈ out)) with _ | _
                · obtain ⟨rfl, hno⟩ : st = false ∧ x.name ∉ out := by
                    rcases st with _ | _
                    · exact ⟨rfl, by simpa using hq⟩
                    · cases hq
                  have hup : x.state = 1 := by have h1 := HST.out; simp at h1; omega
                  have HPO := hide (show placesOf x = x.tokens.map (fun t => ⟨t, x.name⟩) from if_pos hup)
                  have HNO := hide hno
                  clear hq hno hup hst
                  go_wp2
                  go_loopw [8, 9, 13] (fun bv fv kv wq => ∃ (k : Nat) (best : Int) (far : Nat), kv = vInt k ∧ k ≤ x.tokens.length ∧ bv = .int .i64 best ∧ fv = vU64 far ∧ Hid (Near l (places l) key out ((places (l.take I)).length + k) best far) ∧ Ch [] w0 wq) (fun _ _ kv _ => x.tokens.length - (intOf kv).toNat)
                  case atStart => exact ⟨0, best, far, rfl, by omega, rfl, rfl, hnear, hcq3⟩
                  case round =>
                    obtain ⟨k, best, far, rfl, hk, rfl, rfl, hN, hcq4⟩ := hrel
                    clear c0 c1 c2 c3
                    obtain ⟨T4, m4, c0, c1, c2, c3, ht4⟩ := Kd.mem_cells (hrow.ch0 (hcr.trans0 hcq4)) hil
                    have ex : l[I] = x := Option.some.inj ((List.getElem?_eq_getElem hil).symm.trans hxI.out)
                    rw [ex] at c0 c1 c2 c3 ht4
                    clear ex
                    by_cases hkt : k < x.tokens.length
                    · obtain ⟨T5, m5, hv, hle, hm5, hrow5⟩ := ht4
                      injection hv with e1 e2 e3
                      subst e1 e3
                      obtain ⟨g5, o5, rfl, _, _⟩ := hrow5.addr (by omega)
                      unfold maxLen at hm5
                      have d0 := Kd.u64_cell hrow5 hkt
                      have htv0 := TN.out x hxm.out x.tokens[k] (List.getElem_mem hkt)
                      have hp0 := places_at hxI.out k (by rw [HPO.out, List.length_map]; exact hkt)
                      rw [HPO.out, List.getElem?_map, List.getElem?_eq_getElem hkt, Option.map_some] at hp0
                      obtain ⟨tv, htv⟩ : ∃ t, x.tokens[k] = t := ⟨_, rfl⟩
                      rw [htv] at d0 htv0 hp0
                      clear htv
                      have HP := hide hp0
                      clear hp0
                      obtain ⟨dd, hdd⟩ : ∃ d, dst tv key = d := ⟨_, rfl⟩
                      have hd : IntKind.u64.wrap ((tv : Int) - (key : Int)) = (dd : Int) := by
                        rw [← hdd]
                        unfold dst IntKind.wrap
                        simp [IntKind.bits, IntKind.signed]
                        omega
                      have k1 : (k : Int) < (x.tokens.length : Int) := by omega
                      rcases hN.out.place with rfl | ⟨bi, xb, rfl, hxb⟩
                      · have HN2 := hide (hN.out.first hxI.out HP.out rfl HNO.out)
                        rw [hdd] at HN2
                        clear hdd hN
                        go_wp2
                        go_roundw
                        case rel => exact ⟨k + 1, _, _, by go_num, by omega, rfl, rfl, HN2, hcq4⟩
                        case measure => simp [intOf]; omega
                      · have k2 : decide ((bi : Int) < 0) = false := decide_eq_false (by omega)
                        by_cases hlt : dst tv key < far
                        · have HN2 := hide (hN.out.less hxI.out HP.out rfl HNO.out hlt)
                          rw [hdd] at HN2 hlt
                          have q1 : (dd : Int) < (far : Int) := by omega
                          clear hdd hN hlt
                          go_wp2
                          go_roundw
                          case rel => exact ⟨k + 1, _, _, by go_num, by omega, rfl, rfl, HN2, hcq4⟩
                          case measure => simp [intOf]; omega
                        · have HN2 := hide (hN.out.keep HP.out hlt)
                          rw [hdd] at hlt
                          have q1 : decide ((dd : Int) < (far : Int)) = false := decide_eq_false (by omega)
                          have q2 : decide (dd < far) = false := decide_eq_false (by omega)
                          clear hdd hN hlt
                          go_wp2
                          go_roundw
                          case rel => exact ⟨k + 1, _, _, by go_num, by omega, rfl, rfl, HN2, hcq4⟩
                          case measure => simp [intOf]; omega
                    · obtain rfl : k = x.tokens.length := by omega
                      have HN2 : Hid (Near l (places l) key out (places (l.take (I + 1))).length best far) := hide (by
                        rw [places_take_succ hxI.out, List.length_append, HPO.out, List.length_map]
                        exact hN.out)
                      go_wp2
                      go_roundw
                      case rel => exact ⟨I + 1, _, _, by go_num, by omega, rfl, rfl, HN2, hcq4⟩
                      case measure => simp [intOf]; omega
                · go_wp2
                  go_loopw [8, 9, 13] (fun bv fv kv wq => bv = .int .i64 best ∧ fv = vU64 far ∧ kv = vInt 0 ∧ Ch [] w0 wq) (fun _ _ _ _ => 0)
                  case atStart => exact ⟨rfl, rfl, rfl, hcq3⟩
                  case round =>
                    obtain ⟨rfl, rfl, rfl, hcq4⟩ := hrel
                    clear c0 c1 c2 c3
                    obtain ⟨T4, m4, c0, c1, c2, c3, ht4⟩ := Kd.mem_cells (hrow.ch0 (hcr.trans0 hcq4)) hil
                    have ex : l[I] = x := Option.some.inj ((List.getElem?_eq_getElem hil).symm.trans hxI.out)
                    rw [ex] at c0 c1 c2 c3 ht4
                    clear ex
                    have HN2 : Hid (Near l (places l) key out (places (l.take (I + 1))).length best far) := hide (by
                      have h1 := places_take_succ hxI.out
                      have h2 := hnear.out.skip (m' := (places (l.take (I + 1))).length) (fun j p hj1 hj2 hp => by
                        rw [h1, List.length_append] at hj2
                        have h3 := places_at hxI.out (j - (places (l.take I)).length) (by omega)
                        rw [show (places (l.take I)).length + (j - (places (l.take I)).length) = j by omega, hp] at h3
                        unfold placesOf at h3
                        split at h3
                        · rename_i hs
                          rw [List.getElem?_map] at h3
                          rcases he : x.tokens[j - (places (l.take I)).length]? with _ | t
                          · rw [he] at h3; cases h3
                          · rw [he] at h3
                            cases h3
                            have h4 := HST.out
                            rw [hs] at h4
                            simp at h4
                            rw [h4] at hq
                            simpa using hq
                        · cases h3)
                      rwa [Nat.max_eq_right (by rw [h1, List.length_append]; omega)] at h2)
                    by_cases h0t : 0 < x.tokens.length
                    · have h0t' : (0 : Int) < (x.tokens.length : Int) := by omega
                      go_wp2
                      go_roundw
                      case rel => exact ⟨I + 1, _, _, by go_num, by omega, rfl, rfl, HN2, hcq4⟩
                      case measure => simp [intOf]; omega
                    · obtain h0t' : x.tokens.length = 0 := by omega
                      go_wp2
                      go_roundw
                      case rel => exact ⟨I + 1, _, _, by go_num, by omega, rfl, rfl, HN2, hcq4⟩
                      case measure => simp [intOf]; omega
          · obtain rfl : I = l.length := by omega
            rw [List.take_length] at hnear
            rcases HE.out out.length out best far ho.out rfl hnear.out with ⟨rfl, hend⟩ | ⟨bi, x, rfl, hxb, hnext⟩
            · have hfin := hend n (by omega)
              go_wp2
              refine hK.out _ _ ⟨_, rfl, ?_, hcr.trans0 hcq⟩
              rw [hfin]
              exact (hown.ch0 hcq).at_ (fun k hk => (hown.block k hk).1)
            · obtain ⟨hbl, ex⟩ := List.getElem?_eq_some_iff.1 hxb
              obtain ⟨g, o, rfl, _, _⟩ := hrow.addr (by omega)
              obtain ⟨T4, m4, c0, c1, c2, c3, ht4⟩ := Kd.mem_cells (hrow.ch0 (hcr.trans0 hcq)) hbl
              rw [ex] at c0 c1 c2 c3 ht4
              clear ex hxb
              have HN := hide hnext
              clear hnext
              have k1 : (bi : Int) < (l.length : Int) := by omega
              have k2 : decide ((bi : Int) < 0) = false := decide_eq_false (by omega)
              have hsz := (hcr.trans0 hcq).size
              go_wp2_with (at_builtin; refine Kd.wpList_append Kd.str rfl (.tmp 90) (.tmp 96) 27 9 _ 16 rfl Try.underlying27 Try.infoStr rfl (by decide) (by decide) (v := .slice Av out.length cv) rfl rfl rfl (p := x.name) (cs := [vStr x.name]) rfl (hown.ch0 hcq) hsz (by omega) ?_; intro v1 w9 hown9 hch9 hat9; obtain ⟨A9, c9, rfl⟩ := hown9.form)
              go_roundw
              case rel => exact ⟨out ++ [x.name], hide (by rw [List.length_append, List.length_singleton]; exact HN.out), by simp; omega, by rw [List.length_append] at hown9; exact hown9, (hcr.trans0 hcq).trans hch9 (fun t ht => .inr (hown.block t (by simpa using ht)).1)⟩
              case measure => simp [vlen]; omega
      · have hfin : picks n T = out := by
          by_cases h0 : 0 ≤ n
          · have : (out.length : Int) = n := by omega
            rw [← this]; exact ho.out
          · obtain rfl : out = [] := List.eq_nil_of_length_eq_zero (by omega)
            exact picks_zero (by omega) T
        have HF := hide hfin
        clear hfin
        go_wp2
        refine hK.out _ _ ⟨_, rfl, ?_, hcr⟩
        rw [HF.out]
        exact hown.at_ (fun k hk => (hown.block k hk).1)
  · rw [if_neg hc] at hK
    have q0 : (chkRing l != 0) = true := by simp [hc]
    have LA := hide la
    clear la nl hc hZ
    obtain ⟨A, c, rfl, hlc, hcm, hrow⟩ := h
    go_enter Try.func16, Try.ntmps16
    go_wp2_with (go_at_call 9; (with_reducible refine (refCheck22_w _ _ _ _ LA.out h0).mono ?_); rintro e w1 ⟨rfl, hch1⟩)
    exact hK.out _ _ ⟨_, rfl, Kd.At.nil _ _ _, hch1⟩
end Go.Proofs.Ytmojbpgabpbacaa
