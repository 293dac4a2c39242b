/- spenceref22: Rest, Same. -/
import Derived.Test.YtmojbpgabpbacaaRing2
import Derived.Test.YtmojbpgabpbacaaRefB
namespace Go.Proofs.Ytmojbpgabpbacaa
open Go.RowKit

set_option maxRecDepth 100000 in
set_option maxHeartbeats 1600000 in
theorem refRest_w (w : World) (ok : Nat → Prop) (x : Member) (t : Value) (hx : memNums x) (hl : x.tokens.length ≤ 16) (ht : Kd.u64.At w ok t x.tokens) :
    Calls Try.prog 46 #[vMem x t] w fun r w' => r = .returned (vStr (eRest x)) ∧ Ch [] w w' := by
  refine calls_hide fun K hK => ?_
  have hel := eRest_len hl
  have Hel := hide hel
  clear hel
  obtain ⟨hx1, hx2, hx3⟩ := hx
  obtain ⟨nm, ep, st, tk⟩ := x
  dsimp only at hx1 hx2 hx3 hl ht ⊢
  obtain ⟨y, rfl⟩ : ∃ y : UInt8, st = y.toNat := ⟨UInt8.ofNat st, by rw [UInt8.toNat_ofNat']; omega⟩
  have hcA := (Ch.refl [] w).alloc (.cells #[vStr nm, vU64 ep, vByte y.toNat, t] 31)
  have hbA := Blk.new w 31 [vStr nm, vU64 ep, vByte y.toNat, t]
  have ht1 := ht.bound.ch0 hcA
  have HX := hide hx3
  clear hx1 hx2 hx3
  obtain ⟨T, m, rfl, h1, h2, h3⟩ := ht
  unfold maxLen at h2
  go_enter Try.func46, Try.ntmps46
  go_wp2_with (first
    | (go_at_call 51; refine (rNew_w _ 65536 (by decide)).mono ?_; rintro e w2 ⟨b, rfl, hb, hp, hch2⟩; have kA := hbA.ch0 hch2; have a2 := kA.cell 2; have a3 := kA.cell 3; have hA2 := hcA.trans0 hch2; have hbl : w.heap.size < b := (by simp at hb; omega))
    | (go_at_call 89; refine (rByte_w _ _ _ _ _ y hp).mono ?_; rintro e w3 ⟨rfl, o3, e3, hw3⟩; have kB := kA.ch hw3.ch (by simp; omega); have b3 := kB.cell 3)
    | (go_at_call 90; refine (rPutCount_w _ _ _ _ _ 16 tk.length hl (by decide) hw3.pen).mono ?_; rintro e w4 ⟨rfl, o4, e4, hw4⟩; have hw34 := hw3.seq hw4))
  have kC := kB.ch hw4.ch (by simp; omega)
  clear kA kB
  go_loopw [4] (fun iv wr => ∃ k o e, iv = vInt k ∧ k ≤ tk.length ∧ RW w2 wr b 65536 [] 0 (([y] ++ eVar tk.length) ++ ((tk.take k).map eFix).flatten) o e ∧ Blk wr w.heap.size 31 [vStr nm, vU64 ep, vByte y.toNat, .slice T tk.length m]) (fun iv _ => tk.length - (intOf iv).toNat)
  case atStart => exact ⟨0, o4, e4, rfl, by omega, by simpa using hw34, kC⟩
  case round =>
    clear hw34 hw4 hw3 kC
    obtain ⟨k, o, e, rfl, hk, hw, hB⟩ := hrel
    have c3 := hB.cell 3
    by_cases hlt : k < tk.length
    · have hr := (ht1.ch0 hch2).ch hw.ch (fun j hj _ hm => by have := hj.2; simp at hm; omega)
      obtain ⟨T0, m0, hv, hle, hcm, hrow⟩ := hr
      injection hv with e1 e2 e3
      subst e1 e3
      obtain ⟨g, o', rfl, _, _⟩ := hrow.addr (by omega)
      have d0 := Kd.u64_cell hrow hlt
      obtain ⟨tv, htv⟩ : ∃ t, tk[k] = t := ⟨_, rfl⟩
      have htk := hide (show ([y] ++ eVar tk.length) ++ ((tk.take (k + 1)).map eFix).flatten = (([y] ++ eVar tk.length) ++ ((tk.take k).map eFix).flatten) ++ eFix tv by
        rw [List.take_succ_eq_append_getElem hlt, htv]; simp)
      have hn := hide (HX.out tk[k] (List.getElem_mem hlt))
      rw [htv] at d0 hn
      clear htv
      go_wp2_with (first
        | (go_at_call 91; refine (rFixPut_w _ _ _ _ _ tv hn.out hw.pen).mono ?_; rintro e w5 ⟨rfl, o5, e5, hw5⟩))
      go_roundw
      case rel => exact ⟨k + 1, o5, e5, by go_num, by omega, hw.seq' hw5 htk.out, hB.ch hw5.ch (by simp; omega)⟩
      case measure => simp [intOf]; omega
    · rw [List.take_of_length_le (by omega)] at hw
      obtain ⟨rfl, rfl⟩ := RW.full (t := eRest ⟨nm, ep, y.toNat, tk⟩) (by simpa [eRest] using hw) (by have := Hel.out; omega)
      have p0 := hw.pen.1.cell 0
      go_wp2
      exact hK.out _ _ ⟨rfl, hA2.trans hw.ch (fun t ht => .inr (by rw [List.mem_singleton.1 ht]; omega))⟩

theorem mem_eq {x y : Member} : x = y ↔ x.name = y.name ∧ x.epoch = y.epoch ∧ x.state = y.state ∧ x.tokens = y.tokens := by
  obtain ⟨a, b, c, d⟩ := x
  obtain ⟨a', b', c', d'⟩ := y
  simp
set_option maxRecDepth 100000 in
set_option maxHeartbeats 3200000 in
theorem same22_w (w : World) (ok ok' : Nat → Prop) (va vb : Value) (a b : List Member) (ha : Kd.mem.At w ok va a) (hb : Kd.mem.At w ok' vb b) :
    Calls Try.prog 15 #[va, vb] w fun r w' => ∃ q : Bool, r = .returned (.bool q) ∧ (q = true ↔ a = b) ∧ Drawn w w' := by
  refine calls_hide fun K hK => ?_
  obtain ⟨A, c, rfl, hc, hm, ha⟩ := ha
  obtain ⟨B, d, rfl, hd, hm2, hb⟩ := hb
  unfold maxLen at hm hm2
  by_cases hl : a.length = b.length
  · have q0 : ((a.length : Int) != (b.length : Int)) = false := by simp [hl]
    have HL := hide hl
    have hl1 : a.length ≤ b.length := by omega
    have hl2 : b.length ≤ a.length := by omega
    clear hl
    go_enter Try.func15, Try.ntmps15
    go_wp2
    go_loopw [5] (fun i wr => ∃ k : Nat, i = vInt k ∧ k ≤ a.length ∧ Hid (a.take k = b.take k) ∧ Drawn w wr) (fun i _ => a.length - (intOf i).toNat)
    case atStart => exact ⟨0, rfl, by omega, hide rfl, Drawn.refl w⟩
    case round =>
      obtain ⟨k, rfl, hk, hp, n, rfl⟩ := hrel
      by_cases hlt : k < a.length
      · have hlt2 : k < b.length := by omega
        obtain ⟨g, o, rfl, _, _⟩ := ha.addr (by omega)
        obtain ⟨g2, o2, rfl, _, _⟩ := hb.addr (by omega)
        obtain ⟨T, tm, c0, c1, c2, c3, ht⟩ := Kd.mem_cells ha hlt
        obtain ⟨S, sm, d0, d1, d2, d3, hs⟩ := Kd.mem_cells hb hlt2
        have hsx := hide (take_eq_succ hlt hlt2)
        have hne := hide (show ¬ a[k] = b[k] → ¬ a = b from fun h e => h (by subst e; rfl))
        have i1 : (k : Int) < (a.length : Int) := by omega
        have i2 : (k : Int) < (b.length : Int) := by omega
        obtain ⟨x, hx⟩ : ∃ x, a[k] = x := ⟨_, rfl⟩
        obtain ⟨y, hy⟩ : ∃ y, b[k] = y := ⟨_, rfl⟩
        rw [hx] at c0 c1 c2 c3 ht hsx hne
        rw [hy] at d0 d1 d2 d3 hs hsx hne
        clear hx hy
        by_cases e0 : x.name = y.name
        · have f0 : (x.name == y.name) = true := by simp [e0]
          by_cases e1 : x.epoch = y.epoch
          · have f1 : ((x.epoch : Int) != (y.epoch : Int)) = false := by simp [e1]
            have f1' : (x.epoch != y.epoch) = false := by simp [e1]
            by_cases e2 : x.state = y.state
            · have f2 : ((x.state : Int) != (y.state : Int)) = false := by simp [e2]
              have f2' : (x.state != y.state) = false := by simp [e2]
              by_cases e3 : x.tokens.length = y.tokens.length
              · have f3 : ((x.tokens.length : Int) != (y.tokens.length : Int)) = false := by simp [e3]
                have f3' : (x.tokens.length != y.tokens.length) = false := by simp [e3]
                have E := hide (And.intro e0 (And.intro e1 e2))
                have E3 := hide e3
                have l1 : x.tokens.length ≤ y.tokens.length := by omega
                clear e0 e1 e2 e3
                go_wp2
                go_quiet (fail)
                go_wp2
                obtain ⟨T0, tm0, hv, _, hmx, hrx⟩ := ht
                injection hv with v1 v2 v3
                subst v1 v3
                obtain ⟨S0, sm0, hv, _, hmy, hry⟩ := hs
                injection hv with v1 v2 v3
                subst v1 v3
                unfold maxLen at hmx hmy
                go_loopw [6] (fun jv wq => ∃ j : Nat, jv = vInt j ∧ j ≤ x.tokens.length ∧ Hid (x.tokens.take j = y.tokens.take j) ∧ Drawn w wq) (fun j _ => x.tokens.length - (intOf j).toNat)
                case atStart => exact ⟨0, rfl, by omega, hide rfl, (by repeat (first | exact Drawn.refl _ | exact Drawn.of _ _ | refine Drawn.drewN ?_ _))⟩
                case round =>
                  obtain ⟨j, rfl, hj, hpj, n2, rfl⟩ := hrel
                  by_cases hjl : j < x.tokens.length
                  · have hjl2 : j < y.tokens.length := by omega
                    obtain ⟨g3, o3, rfl, _, _⟩ := hrx.addr (by omega)
                    obtain ⟨g4, o4, rfl, _, _⟩ := hry.addr (by omega)
                    have t0 := Kd.u64_cell hrx hjl
                    have t1 := Kd.u64_cell hry hjl2
                    have hsj := hide (take_eq_succ hjl hjl2)
                    have i3 : (j : Int) < (x.tokens.length : Int) := by omega
                    have i4 : (j : Int) < (y.tokens.length : Int) := by omega
                    have hnt := hide (show ¬ x.tokens[j] = y.tokens[j] → ¬ x = y from fun h e => h (by subst e; rfl))
                    obtain ⟨tx, htx⟩ : ∃ t, x.tokens[j] = t := ⟨_, rfl⟩
                    obtain ⟨ty, hty⟩ : ∃ t, y.tokens[j] = t := ⟨_, rfl⟩
                    rw [htx] at t0 hsj hnt
                    rw [hty] at t1 hsj hnt
                    clear htx hty
                    by_cases et : tx = ty
                    · have z0 : ((tx : Int) != (ty : Int)) = false := by simp [et]
                      have z1 : (tx != ty) = false := by simp [et]
                      have ET := hide et
                      clear et
                      go_wp2
                      go_quiet (fail)
                      go_wp2
                      go_roundw
                      case rel => exact ⟨j + 1, by go_num, by omega, hide (hsj.out.2 ⟨hpj.out, ET.out⟩), (by repeat (first | exact Drawn.refl _ | exact Drawn.of _ _ | refine Drawn.drewN ?_ _))⟩
                      case measure => simp [intOf]; omega
                    · have z0 : ((tx : Int) != (ty : Int)) = true := by simp; omega
                      have z1 : (tx != ty) = true := by simp; omega
                      have ET := hide et
                      clear et
                      go_wp2
                      go_quiet (fail)
                      go_wp2
                      exact hK.out _ _ ⟨false, rfl, by simp [hne.out (hnt.out ET.out)], (by repeat (first | exact Drawn.refl _ | exact Drawn.of _ _ | refine Drawn.drewN ?_ _))⟩
                  · have htk : x.tokens = y.tokens := by
                      have h1 := hpj.out
                      rwa [List.take_of_length_le (by omega), List.take_of_length_le (by have := E3.out; omega)] at h1
                    have hxy := hide (mem_eq.2 ⟨E.out.1, E.out.2.1, E.out.2.2, htk⟩)
                    clear htk
                    go_wp2
                    go_roundw
                    case rel => exact ⟨k + 1, by go_num, by omega, hide (hsx.out.2 ⟨hp.out, hxy.out⟩), (by repeat (first | exact Drawn.refl _ | exact Drawn.of _ _ | refine Drawn.drewN ?_ _))⟩
                    case measure => simp [intOf]; omega
              · have f3 : ((x.tokens.length : Int) != (y.tokens.length : Int)) = true := by simp; omega
                have f3' : (x.tokens.length != y.tokens.length) = true := by simp; omega
                have E := hide (show ¬ x = y from fun e => e3 (by rw [e]))
                clear e0 e1 e2 e3
                go_wp2
                go_quiet (fail)
                go_wp2
                exact hK.out _ _ ⟨false, rfl, by simp [hne.out E.out], (by repeat (first | exact Drawn.refl _ | exact Drawn.of _ _ | refine Drawn.drewN ?_ _))⟩
            · have f2 : ((x.state : Int) != (y.state : Int)) = true := by simp; omega
              have f2' : (x.state != y.state) = true := by simp; omega
              have E := hide (show ¬ x = y from fun e => e2 (by rw [e]))
              clear e0 e1 e2
              go_wp2
              go_quiet (fail)
              go_wp2
              exact hK.out _ _ ⟨false, rfl, by simp [hne.out E.out], (by repeat (first | exact Drawn.refl _ | exact Drawn.of _ _ | refine Drawn.drewN ?_ _))⟩
          · have f1 : ((x.epoch : Int) != (y.epoch : Int)) = true := by simp; omega
            have f1' : (x.epoch != y.epoch) = true := by simp; omega
            have E := hide (show ¬ x = y from fun e => e1 (by rw [e]))
            clear e0 e1
            go_wp2
            go_quiet (fail)
            go_wp2
            exact hK.out _ _ ⟨false, rfl, by simp [hne.out E.out], (by repeat (first | exact Drawn.refl _ | exact Drawn.of _ _ | refine Drawn.drewN ?_ _))⟩
        · have f0 : (x.name == y.name) = false := by simp [e0]
          have E := hide (show ¬ x = y from fun e => e0 (by rw [e]))
          clear e0
          go_wp2
          go_quiet (fail)
          go_wp2
          exact hK.out _ _ ⟨false, rfl, by simp [hne.out E.out], (by repeat (first | exact Drawn.refl _ | exact Drawn.of _ _ | refine Drawn.drewN ?_ _))⟩
      · go_wp2
        refine hK.out _ _ ⟨true, rfl, ?_, (by repeat (first | exact Drawn.refl _ | exact Drawn.of _ _ | refine Drawn.drewN ?_ _))⟩
        have h1 := hp.out
        rw [List.take_of_length_le (by omega), List.take_of_length_le (by omega)] at h1
        simp [h1]
  · have q0 : ((a.length : Int) != (b.length : Int)) = true := by simp; omega
    go_enter Try.func15, Try.ntmps15
    go_wp2
    refine hK.out _ _ ⟨false, rfl, ?_, Drawn.refl _⟩
    have : ¬ a = b := fun h => hl (by rw [h])
    simp [this]
end Go.Proofs.Ytmojbpgabpbacaa
