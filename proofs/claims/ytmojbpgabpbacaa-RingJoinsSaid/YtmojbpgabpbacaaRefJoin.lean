/- spenceref22.Join: its loop. -/
import Derived.Test.YtmojbpgabpbacaaRef22
import Derived.Test.YtmojbpgabpbacaaRing3
import Derived.Test.YtmojbpgabpbacaaJoinPure2
import Derived.Test.YtmojbpgabpbacaaOwnTail
namespace Go.Proofs.Ytmojbpgabpbacaa
open Go.RowKit

theorem quiet_drawn {P : Program} {f : FuncId} {args : Array Value} {w : World} {a n : Nat} {v : Value}
    (h : Calls P f args (w.drewN (a + n)) fun e w' => e = .returned v ∧ Drawn (w.drewN (a + n)) w') :
    Calls P f args (w.drewN (a + n)) fun e w'' => e = .returned v ∧ ∃ m, w'' = w.drewN (a + m) :=
  h.mono fun _ _ ⟨he, m, hm⟩ => ⟨he, n + m, by rw [hm, World.drewN_drewN, Nat.add_assoc]⟩
theorem abv_zero {J : List Member} {n : Nat} {x : Member} (h : ¬ 0 < n) : abv J n x := fun h0 => absurd h0 h
theorem abv_iff {J : List Member} {n : Nat} {q x : Member} (h : 0 < n) (hq : J[n - 1]? = some q) : abv J n x ↔ below q.name x.name = true :=
  ⟨fun h1 => h1 h q hq, fun h1 _ q' hq' => by rw [hq] at hq'; cases hq'; exact h1⟩

set_option maxRecDepth 100000 in
set_option maxHeartbeats 6400000 in
theorem refJoinLoop_w (w w1 : World) (okk : Nat → Prop) (a b L J : List Member) (A B A4 : Option Addr) (c d c4 : Nat) (K : Ending → World → Prop)
    (hbn : Hid (∀ n, n ≤ J.length → Best J n L L.length (-1) → n = J.length)) (hbx : Hid (∀ n k y, n ≤ J.length → Best J n L L.length (k : Nat) → L[k]? = some y → ∃ z, J[n]? = some z ∧ z.name = y.name ∧ pickM a b y.name = some z))
    (hLl : L.length ≤ 64) (hJl : J.length ≤ 64) (LN : Hid (∀ x ∈ L, x.name.length ≤ 32)) (JN : Hid (∀ x ∈ J, x.name.length ≤ 32)) (ga : Hid (∀ x ∈ a, memIn x)) (gb : Hid (∀ x ∈ b, memIn x))
    (ha : Kd.mem.At w1 okk (.slice A a.length c) a) (hb : Kd.mem.At w1 okk (.slice B b.length d) b) (hL : Kd.mem.At w1 (fun k => k < w1.heap.size) (.slice A4 L.length c4) L) (hokk : ∀ k, okk k → k < w1.heap.size) (hch : Ch [] w w1)
    (hK3 : Hid (∀ wz, 32 < J.length → Ch [] w wz → K (.returned (.tuple #[.slice none 0 0, .int .i64 3])) wz))
    (hK0 : Hid (∀ v wz, ¬ 32 < J.length → Kd.mem.Own 31 wz w1.heap.size okk v J → Ch [] w wz → K (.returned (.tuple #[v, .int .i64 0])) wz))
    (u2 u3 u8 u9 u10 u11 u12 u13 u14 u15 u16 u17 u18 u19 u20 u21 u22 u23 u24 u25 u26 u27 u28 u29 u30 u31 u32 u33 u34 u35 u36 u37 u38 u39 u40 u41 u42 u43 u44 u45 u46 u47 u48 u49 u50 u51 u52 u53 u54 u55 u56 u57 u58 u59 u60 u61 u62 u63 u64 u65 u66 u67 u68 u69 u70 u71 u72 u73 u74 u75 u76 u77 u78 u79 u80 u81 u82 u83 u84 u85 u86 u87 u88 u89 u90 u91 u92 u93 u94 u95 u96 u97 u98 u99 u100 u101 u102 u103 u104 u105 u106 u107 u108 u109 u110 u111 u112 u113 u114 u115 u116 u117 u118 u119 u120 u121 u122 u123 u124 : Value) :
    Code.wp Try.prog (codeTail' (Try.f14.body.getD .skip) 4) (bodyPost Try.prog Try.f14 K) { tmps := #[.slice A a.length c, .slice B b.length d, u2, u3, .slice none 0 0, .int .i64 0, .slice none 0 0, .slice A4 L.length c4, u8, u9, u10, u11, u12, u13, u14, u15, u16, u17, u18, u19, u20, u21, u22, u23, u24, u25, u26, u27, u28, u29, u30, u31, u32, u33, u34, u35, u36, u37, u38, u39, u40, u41, u42, u43, u44, u45, u46, u47, u48, u49, u50, u51, u52, u53, u54, u55, u56, u57, u58, u59, u60, u61, u62, u63, u64, u65, u66, u67, u68, u69, u70, u71, u72, u73, u74, u75, u76, u77, u78, u79, u80, u81, u82, u83, u84, u85, u86, u87, u88, u89, u90, u91, u92, u93, u94, u95, u96, u97, u98, u99, u100, u101, u102, u103, u104, u105, u106, u107, u108, u109, u110, u111, u112, u113, u114, u115, u116, u117, u118, u119, u120, u121, u122, u123, u124], defers := [] } w1 := by
  conv in codeTail' _ _ => (unfold Try.f14; dsimp only [Option.getD, codeTail'])
  dsimp only
  go_wp2
  go_loopw [6] (fun ov wr => ∃ out : List Member, Hid (out = J.take out.length) ∧ out.length ≤ J.length ∧ Kd.mem.Own 31 wr w1.heap.size okk ov out ∧ Ch [] w1 wr) (fun ov _ => J.length - vlen ov)
  case atStart => exact ⟨[], hide rfl, by simp, Kd.Own.nil _ _ _ _ _, Ch.refl _ _⟩
  case round =>
    obtain ⟨out, ho, hol, hown, hcr⟩ := hrel
    obtain ⟨Av, cv, rfl⟩ := hown.form
    have hLr := hL.ch0 hcr
    obtain ⟨A5, c5, hv, hLc, hLm, hLrow⟩ := hLr
    injection hv with e1 e2 e3
    subst e1 e3
    obtain ⟨A6, c6, hv, hOc, hOm, hOrow⟩ := (hown.mono (ok' := fun k => okk k ∨ w1.heap.size ≤ k) (fun k h => .inl h)).at_ (fun k hk => .inr (hown.block k hk).1)
    injection hv with e1 e2 e3
    subst e1 e3
    unfold maxLen at hLm hOm
    go_wp2
    go_loopw [8, 9] (fun kv iv wq => ∃ (i : Nat) (z : Int), iv = vInt i ∧ i ≤ L.length ∧ kv = .int .i64 z ∧ Hid (Best J out.length L i z) ∧ Ch [] wr wq) (fun _ iv _ => L.length - (intOf iv).toNat)
    case atStart => exact ⟨0, -1, rfl, by omega, rfl, hide Best.start, Ch.refl _ _⟩
    case round =>
      obtain ⟨i, z, rfl, hi, rfl, hbest, hcq⟩ := hrel
      by_cases hil : i < L.length
      · obtain ⟨g, o, rfl, _, _⟩ := hLrow.addr (by omega)
        obtain ⟨T, m, c0, _, _, _, _⟩ := Kd.mem_cells (hLrow.ch0 hcq) hil
        have hxi := hide (List.getElem?_eq_getElem hil)
        obtain ⟨x, hx⟩ : ∃ x, L[i] = x := ⟨_, rfl⟩
        have lx := LN.out L[i] (List.getElem_mem hil)
        rw [hx] at c0 hxi lx
        clear hx
        have lx' : x.name.length ≤ 140737488351232 := by omega
        have i1 : (i : Int) < (L.length : Int) := by omega
        by_cases h0 : 0 < out.length
        · have hq : J[out.length - 1]? = some (out[out.length - 1]'(by omega)) := by
            have h1 := List.getElem?_eq_getElem (show out.length - 1 < out.length by omega)
            rw [← h1, ho.out, List.length_take, Nat.min_eq_left hol, List.getElem?_take, if_pos (by omega)]
          obtain ⟨g6, o6, rfl, _, _⟩ := hOrow.addr (by omega)
          obtain ⟨T6, m6, p0, _, _, _, _⟩ := Kd.mem_cells (hOrow.ch0 hcq) (k := out.length - 1) (by omega)
          obtain ⟨q, hqe⟩ : ∃ q, out[out.length - 1]'(by omega) = q := ⟨_, rfl⟩
          rw [hqe] at p0 hq
          have lq := JN.out q (List.mem_of_getElem? hq)
          have lq' : q.name.length ≤ 140737488351232 := by omega
          have habv := hide (abv_iff (x := x) h0 hq)
          clear hqe hq
          have f0 : decide ((0 : Int) < (out.length : Int)) = true := decide_eq_true (by omega)
          have i1 : (0 : Int) ≤ (out.length : Int) - 1 := (by omega); have i2 : (out.length : Int) - 1 < (out.length : Int) := (by omega); have i3 : ((out.length : Int) - 1).toNat = out.length - 1 := (by omega); have i4 : (0 : Int) < (out.length : Int) := (by omega); have i5 : IntKind.i64.wrap ((out.length : Int) - 1) = (out.length : Int) - 1 := IntWalk.i64_in _ (by omega)
          rcases hqx : below q.name x.name with _ | _
          · have hb2 := hide (hbest.out.skip hxi.out (fun h => by rw [habv.out, hqx] at h; cases h))
            clear hbest
            go_wp2
            go_quiet (((go_at_call 37; first | exact Calls.quiet_of (refBelow_w _ _ _ (by assumption) (by assumption)) | exact quiet_drawn (refBelow_w _ _ _ (by assumption) (by assumption)))))
            go_wp2
            go_roundw
            case rel => exact ⟨i + 1, _, by go_num, by omega, rfl, hb2, by (repeat (first | assumption | exact Ch.refl _ _ | refine Ch.drewN ?_ _ | refine Ch.drew ?_))⟩
            case measure => simp [intOf]; omega
          · have hav := hide (habv.out.2 hqx)
            rcases hbest.out.place with rfl | ⟨k, y, rfl, hk, hy⟩
            · have hb2 := hide (hbest.out.first hxi.out hav.out)
              clear hbest
              go_wp2
              go_quiet (((go_at_call 37; first | exact Calls.quiet_of (refBelow_w _ _ _ (by assumption) (by assumption)) | exact quiet_drawn (refBelow_w _ _ _ (by assumption) (by assumption)))))
              go_wp2
              go_quiet (((go_at_call 37; first | exact Calls.quiet_of (refBelow_w _ _ _ (by assumption) (by assumption)) | exact quiet_drawn (refBelow_w _ _ _ (by assumption) (by assumption)))))
              go_wp2
              go_roundw
              case rel => exact ⟨i + 1, _, by go_num, by omega, rfl, hb2, by (repeat (first | assumption | exact Ch.refl _ _ | refine Ch.drewN ?_ _ | refine Ch.drew ?_))⟩
              case measure => simp [intOf]; omega
            · have hkl : k < L.length := by omega
              obtain ⟨T', m', k0, _, _, _, _⟩ := Kd.mem_cells (hLrow.ch0 hcq) hkl
              have e : L[k] = y := by
                have := List.getElem?_eq_getElem hkl
                rw [hy] at this
                exact (Option.some.inj this).symm
              have ly := LN.out L[k] (List.getElem_mem hkl)
              rw [e] at k0 ly
              have ly' : y.name.length ≤ 140737488351232 := by omega
              have HY := hide hy
              clear hy e
              have k1 : (k : Int) < (L.length : Int) := by omega
              have k2 : decide ((k : Int) < 0) = false := decide_eq_false (by omega)
              rcases hlt : below x.name y.name with _ | _
              · have hb2 := hide (hbest.out.keep hxi.out HY.out hlt)
                clear hbest
                go_wp2
                go_quiet (((go_at_call 37; first | exact Calls.quiet_of (refBelow_w _ _ _ (by assumption) (by assumption)) | exact quiet_drawn (refBelow_w _ _ _ (by assumption) (by assumption)))))
                go_wp2
                go_quiet (((go_at_call 37; first | exact Calls.quiet_of (refBelow_w _ _ _ (by assumption) (by assumption)) | exact quiet_drawn (refBelow_w _ _ _ (by assumption) (by assumption)))))
                go_wp2
                go_roundw
                case rel => exact ⟨i + 1, _, by go_num, by omega, rfl, hb2, by (repeat (first | assumption | exact Ch.refl _ _ | refine Ch.drewN ?_ _ | refine Ch.drew ?_))⟩
                case measure => simp [intOf]; omega
              · have hb2 := hide (hbest.out.less hxi.out HY.out hav.out hlt)
                clear hbest
                go_wp2
                go_quiet (((go_at_call 37; first | exact Calls.quiet_of (refBelow_w _ _ _ (by assumption) (by assumption)) | exact quiet_drawn (refBelow_w _ _ _ (by assumption) (by assumption)))))
                go_wp2
                go_quiet (((go_at_call 37; first | exact Calls.quiet_of (refBelow_w _ _ _ (by assumption) (by assumption)) | exact quiet_drawn (refBelow_w _ _ _ (by assumption) (by assumption)))))
                go_wp2
                go_roundw
                case rel => exact ⟨i + 1, _, by go_num, by omega, rfl, hb2, by (repeat (first | assumption | exact Ch.refl _ _ | refine Ch.drewN ?_ _ | refine Ch.drew ?_))⟩
                case measure => simp [intOf]; omega
        · have f0 : decide ((0 : Int) < (out.length : Int)) = false := decide_eq_false (by omega)
          have hav := hide (abv_zero (J := J) (x := x) h0)
          rcases hbest.out.place with rfl | ⟨k, y, rfl, hk, hy⟩
          · have hb2 := hide (hbest.out.first hxi.out hav.out)
            clear hbest
            go_wp2
            go_quiet (((go_at_call 37; first | exact Calls.quiet_of (refBelow_w _ _ _ (by assumption) (by assumption)) | exact quiet_drawn (refBelow_w _ _ _ (by assumption) (by assumption)))))
            go_wp2
            go_quiet (((go_at_call 37; first | exact Calls.quiet_of (refBelow_w _ _ _ (by assumption) (by assumption)) | exact quiet_drawn (refBelow_w _ _ _ (by assumption) (by assumption)))))
            go_wp2
            go_roundw
            case rel => exact ⟨i + 1, _, by go_num, by omega, rfl, hb2, by (repeat (first | assumption | exact Ch.refl _ _ | refine Ch.drewN ?_ _ | refine Ch.drew ?_))⟩
            case measure => simp [intOf]; omega
          · have hkl : k < L.length := by omega
            obtain ⟨T', m', k0, _, _, _, _⟩ := Kd.mem_cells (hLrow.ch0 hcq) hkl
            have e : L[k] = y := by
              have := List.getElem?_eq_getElem hkl
              rw [hy] at this
              exact (Option.some.inj this).symm
            have ly := LN.out L[k] (List.getElem_mem hkl)
            rw [e] at k0 ly
            have ly' : y.name.length ≤ 140737488351232 := by omega
            have HY := hide hy
            clear hy e
            have k1 : (k : Int) < (L.length : Int) := by omega
            have k2 : decide ((k : Int) < 0) = false := decide_eq_false (by omega)
            rcases hlt : below x.name y.name with _ | _
            · have hb2 := hide (hbest.out.keep hxi.out HY.out hlt)
              clear hbest
              go_wp2
              go_quiet (((go_at_call 37; first | exact Calls.quiet_of (refBelow_w _ _ _ (by assumption) (by assumption)) | exact quiet_drawn (refBelow_w _ _ _ (by assumption) (by assumption)))))
              go_wp2
              go_quiet (((go_at_call 37; first | exact Calls.quiet_of (refBelow_w _ _ _ (by assumption) (by assumption)) | exact quiet_drawn (refBelow_w _ _ _ (by assumption) (by assumption)))))
              go_wp2
              go_roundw
              case rel => exact ⟨i + 1, _, by go_num, by omega, rfl, hb2, by (repeat (first | assumption | exact Ch.refl _ _ | refine Ch.drewN ?_ _ | refine Ch.drew ?_))⟩
              case measure => simp [intOf]; omega
            · have hb2 := hide (hbest.out.less hxi.out HY.out hav.out hlt)
              clear hbest
              go_wp2
              go_quiet (((go_at_call 37; first | exact Calls.quiet_of (refBelow_w _ _ _ (by assumption) (by assumption)) | exact quiet_drawn (refBelow_w _ _ _ (by assumption) (by assumption)))))
              go_wp2
              go_quiet (((go_at_call 37; first | exact Calls.quiet_of (refBelow_w _ _ _ (by assumption) (by assumption)) | exact quiet_drawn (refBelow_w _ _ _ (by assumption) (by assumption)))))
              go_wp2
              go_roundw
              case rel => exact ⟨i + 1, _, by go_num, by omega, rfl, hb2, by (repeat (first | assumption | exact Ch.refl _ _ | refine Ch.drewN ?_ _ | refine Ch.drew ?_))⟩
              case measure => simp [intOf]; omega
      · obtain rfl : i = L.length := by omega
        have hcw : Ch [] w wr := (hch.trans' hcr).trans' hcq
        have hcr2 : Ch [] w1 wr := hcr.trans' hcq
        rcases hbest.out.place with rfl | ⟨k, y, rfl, hk, hy⟩
        · have hn := hbn.out out.length hol hbest.out
          have hoJ : out = J := by rw [ho.out, hn, List.take_length]
          subst hoJ
          by_cases h32 : 32 < out.length
          · go_wp2
            exact hK3.out _ h32 hcw
          · go_wp2
            exact hK0.out _ _ h32 (hown.ch0 hcq) hcw
        · obtain ⟨zz, hzJ, hzn, hpick⟩ := hbx.out out.length k y hol hbest.out hy
          clear hbest
          obtain ⟨g, o, rfl, _, hgw⟩ := hLrow.addr (by omega)
          have hgwr := Nat.lt_of_lt_of_le hgw hcq.size
          obtain ⟨T', m', k0, _, _, _, _⟩ := Kd.mem_cells (hLrow.ch0 hcq) hk
          have e : L[k] = y := by
            have := List.getElem?_eq_getElem hk
            rw [hy] at this
            exact (Option.some.inj this).symm
          rw [e] at k0
          have ly := LN.out L[k] (List.getElem_mem hk)
          rw [e] at ly
          have k1 : (k : Int) < (L.length : Int) := by omega
          have k2 : decide ((k : Int) < 0) = false := decide_eq_false (by omega)
          obtain ⟨s, hs⟩ : ∃ s, y.name = s := ⟨_, rfl⟩
          rw [hs] at k0 hzn hpick
          clear e hy hs ly
          have hoz : Hid (out ++ [zz] = J.take (out ++ [zz]).length) := hide (by
            rw [List.length_append, List.length_singleton]
            obtain ⟨h1, h2⟩ := List.getElem?_eq_some_iff.1 hzJ
            rw [List.take_succ_eq_append_getElem h1, h2, ← ho.out])
          have hlt : out.length < J.length := (List.getElem?_eq_some_iff.1 hzJ).1
          have hrb : ∀ k, (Value.slice Av out.length cv).ownBlock = some k → w1.heap.size ≤ k ∧ k < wr.heap.size := fun k hk => (hown.ch0 hcq).block k hk
          have hokn : ∀ k, okk k → okk k ∧ some k ≠ (Value.slice Av out.length cv).ownBlock := fun k hk => ⟨hk, fun e => by have := hokk k hk; have := hrb k e.symm; omega⟩
          have HP := hide hpick
          clear hpick hzJ hzn ho
          have ha' := ha.ch0 hcr2
          have hb' := hb.ch0 hcr2
          obtain ⟨xa, hxa⟩ : ∃ xa, (findMem a s).getD noMem = xa := ⟨_, rfl⟩
          obtain ⟨xb, hxb⟩ : ∃ xb, (findMem b s).getD noMem = xb := ⟨_, rfl⟩
          obtain ⟨fa, hfa⟩ : ∃ fa, (findMem a s).isSome = fa := ⟨_, rfl⟩
          obtain ⟨fb, hfb⟩ : ∃ fb, (findMem b s).isSome = fb := ⟨_, rfl⟩
          have HXA := hide hxa
          have HXB := hide hxb
          have HFA := hide hfa
          have HFB := hide hfb
          clear hxa hxb hfa hfb
          go_upto_region 15 with (go_at_call 12; first
            | ((with_reducible refine (find22_w _ _ _ a s ha').mono ?_); rintro e w7 ⟨t1, xx, hxx, he, ht1, hch7⟩; rw [HFA.out] at he; subst he; obtain rfl : xx = xa := hxx.trans HXA.out; clear hxx; have ht1' := ht1; obtain ⟨T1, m1, rfl, _, _, _⟩ := ht1; have bx1 := Blk.new w7 31 [vStr xx.name, vU64 xx.epoch, vByte xx.state, .slice T1 xx.tokens.length m1]; have hb7 := (hb'.ch0 hch7).ch0 ((Ch.refl [] w7).alloc (.cells #[vStr xx.name, vU64 xx.epoch, vByte xx.state, .slice T1 xx.tokens.length m1] 31)); have k0' := hch7.cell k0 (by simp); have k3' := Nat.lt_of_lt_of_le hgwr hch7.size; have k1' := hch7.size)
            | (go_loud ((with_reducible refine (find22_w _ _ _ b s hb7).mono ?_); rintro e w8 ⟨t2, yy, hyy, he, ht2, hch8⟩; rw [HFB.out] at he; subst he; obtain rfl : yy = xb := hyy.trans HXB.out; clear hyy; have ht2' := ht2; obtain ⟨T2, m2, rfl, _, _, _⟩ := ht2; have bx1c := (bx1.ch0 hch8).alloc (.cells #[vStr yy.name, vU64 yy.epoch, vByte yy.state, .slice T2 yy.tokens.length m2] 31); have bx2 := Blk.new w8 31 [vStr yy.name, vU64 yy.epoch, vByte yy.state, .slice T2 yy.tokens.length m2])))
          have k8 := hch8.size
          rw [World.size_alloc] at k8
          have hokb : ∀ k, okk k → ∀ W : World, k < W.heap.size → k ∉ [w7.heap.size] := fun k hk _ _ hm => by have := hokk k hk; have := hcr2.size; simp at hm; omega
          have hol2 : out.length + 1 ≤ 64 := by omega
          go_cut [115] (fun cv wc => ∃ q : Bool, cv = .bool q ∧ (if q then yy else xx) = zz ∧ Blk wc w7.heap.size 31 [vStr xx.name, vU64 xx.epoch, vByte xx.state, .slice T1 xx.tokens.length m1] ∧ Blk wc w8.heap.size 31 [vStr yy.name, vU64 yy.epoch, vByte yy.state, .slice T2 yy.tokens.length m2] ∧ Ch [] w8 wc)
          case first =>
            rcases fa with _ | _
            · have hzz : (if true = true then yy else xx) = zz := by
                have h1 := HP.out
                unfold pickM at h1
                have h2 := HFA.out
                rcases e : findMem a s with _ | x1
                · rw [e] at h1
                  have h3 := HXB.out
                  dsimp only at h1
                  rw [h1] at h3
                  exact h3.symm
                · rw [e] at h2; cases h2
              have HZ := hide hzz
              clear hzz
              go_quiet (fail)
              go_wp2
              go_meet
              exact ⟨_, rfl, HZ.out, bx1c.ch0 (by (repeat (first | exact Ch.refl _ _ | refine Ch.drewN ?_ _ | refine Ch.drew ?_ | refine Ch.alloc ?_ _))), bx2.ch0 (by (repeat (first | exact Ch.refl _ _ | refine Ch.drewN ?_ _ | refine Ch.drew ?_ | refine Ch.alloc ?_ _))), by (repeat (first | exact Ch.refl _ _ | refine Ch.drewN ?_ _ | refine Ch.drew ?_ | refine Ch.alloc ?_ _))⟩
            rcases fb with _ | _
            · have hzz : (if false = true then yy else xx) = zz := by
                have h1 := HP.out
                unfold pickM at h1
                have h2 := HFB.out
                rcases e : findMem b s with _ | x1
                · rw [e] at h1
                  have h3 := HXA.out
                  rcases e2 : findMem a s with _ | x2
                  · rw [e2] at h1; cases h1
                  · rw [e2] at h1 h3
                    exact h3.symm.trans (Option.some.inj h1)
                · rw [e] at h2; cases h2
              have HZ := hide hzz
              clear hzz
              go_quiet (fail)
              go_wp2
              go_meet
              exact ⟨_, rfl, HZ.out, bx1c.ch0 (by (repeat (first | exact Ch.refl _ _ | refine Ch.drewN ?_ _ | refine Ch.drew ?_ | refine Ch.alloc ?_ _))), bx2.ch0 (by (repeat (first | exact Ch.refl _ _ | refine Ch.drewN ?_ _ | refine Ch.drew ?_ | refine Ch.alloc ?_ _))), by (repeat (first | exact Ch.refl _ _ | refine Ch.drewN ?_ _ | refine Ch.drew ?_ | refine Ch.alloc ?_ _))⟩
            · obtain ⟨ea, eb⟩ : findMem a s = some xx ∧ findMem b s = some yy := by
                constructor
                · have h2 := HFA.out
                  have h3 := HXA.out
                  rcases e2 : findMem a s with _ | x2
                  · rw [e2] at h2; cases h2
                  · rw [e2] at h3; exact congrArg some h3
                · have h2 := HFB.out
                  have h3 := HXB.out
                  rcases e2 : findMem b s with _ | x2
                  · rw [e2] at h2; cases h2
                  · rw [e2] at h3; exact congrArg some h3
              have hzc : cnt xx yy = zz := by
                have h1 := HP.out
                unfold pickM at h1
                rw [ea, eb] at h1
                exact Option.some.inj h1
              obtain ⟨ix, nx'⟩ := findMem_some ea
              obtain ⟨iy, ny'⟩ := findMem_some eb
              have hnn : xx.name = yy.name := nx'.trans ny'.symm
              obtain ⟨nx, lx⟩ := ga.out xx ix
              obtain ⟨ny, ly⟩ := gb.out yy iy
              clear ea eb nx' ny' ix iy
              rcases Nat.lt_trichotomy xx.epoch yy.epoch with h | h | h
              · have HZ : Hid ((if true = true then yy else xx) = zz) := hide (show yy = zz from by rw [← hzc, cnt_ref nx ny hnn, if_pos (.inl h)])
                clear hzc nx ny hnn
                have q1 : (xx.epoch : Int) < (yy.epoch : Int) := by omega
                clear h
                have x0 := bx1c.cell 0
                have x1 := bx1c.cell 1
                have x2 := bx1c.cell 2
                have x3 := bx1c.cell 3
                have y0 := bx2.cell 0
                have y1 := bx2.cell 1
                have y2 := bx2.cell 2
                have y3 := bx2.cell 3
                go_quiet (fail)
                go_wp2
                go_meet
                exact ⟨_, rfl, HZ.out, bx1c.ch0 (by (repeat (first | exact Ch.refl _ _ | refine Ch.drewN ?_ _ | refine Ch.drew ?_ | refine Ch.alloc ?_ _))), bx2.ch0 (by (repeat (first | exact Ch.refl _ _ | refine Ch.drewN ?_ _ | refine Ch.drew ?_ | refine Ch.alloc ?_ _))), by (repeat (first | exact Ch.refl _ _ | refine Ch.drewN ?_ _ | refine Ch.drew ?_ | refine Ch.alloc ?_ _))⟩
              · have hzz : (if below (eRest xx) (eRest yy) = true then yy else xx) = zz := by
                  rw [← hzc, cnt_ref nx ny hnn]
                  by_cases hq : below (eRest xx) (eRest yy) = true
                  · rw [if_pos hq, if_pos (.inr ⟨h.symm, hq⟩)]
                  · rw [if_neg hq, if_neg (by rintro (h1 | h1); omega; exact hq h1.2)]
                have HZ := hide hzz
                clear hzz hzc hnn
                have q1 : decide ((xx.epoch : Int) < (yy.epoch : Int)) = false := decide_eq_false (by omega)
                have q2 : ((yy.epoch : Int) == (xx.epoch : Int)) = true := by simp [h]
                have q3 : decide (xx.epoch < yy.epoch) = false := decide_eq_false (by omega)
                have q4 : (yy.epoch == xx.epoch) = true := by simp [h]
                clear h
                obtain ⟨W3, hW3⟩ : ∃ W3, (w8.alloc (.cells #[vStr yy.name, vU64 yy.epoch, vByte yy.state, .slice T2 yy.tokens.length m2] 31)) = W3 := ⟨_, rfl⟩
                have hc3 : Ch [] w8 W3 := hW3 ▸ (Ch.refl [] w8).alloc _
                have hW3' : (w8.alloc (.cells #[.string (bs yy.name), .int .u64 yy.epoch, .int .u8 yy.state, .slice T2 yy.tokens.length m2] 31)) = W3 := hW3
                have HW := hide hW3'
                rw [hW3] at bx1c bx2
                clear hW3 hW3'
                have HX := fun p : Later W3 => refRest_w p.world _ xx _ nx lx (((ht1'.ch0 ((Ch.refl [] w7).alloc _)).ch0 hch8).ch0 (hc3.trans0 p.ch))
                have HY := fun p : Later W3 => refRest_w p.world _ yy _ ny ly (ht2'.ch0 (hc3.trans0 p.ch))
                have elx := eRest_len lx
                have ely := eRest_len ly
                have HB := fun p : Later W3 => (refBelow_w p.world (eRest xx) (eRest yy) (by omega) (by omega)).mono (fun e w' (h : e = .returned (.bool (below (eRest xx) (eRest yy))) ∧ Drawn p.world w') => (⟨h.1, h.2.ch []⟩ : e = .returned (.bool (below (eRest xx) (eRest yy))) ∧ Ch [] p.world w'))
                have x0 := fun p : Later W3 => (show p.world.cell? ⟨w7.heap.size, 0, none⟩ = some (vStr xx.name) from (bx1c.ch0 p.ch).cell 0)
                have x1 := fun p : Later W3 => (show p.world.cell? ⟨w7.heap.size, 1, none⟩ = some (vU64 xx.epoch) from (bx1c.ch0 p.ch).cell 1)
                have x2 := fun p : Later W3 => (show p.world.cell? ⟨w7.heap.size, 2, none⟩ = some (vByte xx.state) from (bx1c.ch0 p.ch).cell 2)
                have x3 := fun p : Later W3 => (show p.world.cell? ⟨w7.heap.size, 3, none⟩ = some (.slice T1 xx.tokens.length m1) from (bx1c.ch0 p.ch).cell 3)
                have y0 := fun p : Later W3 => (show p.world.cell? ⟨w8.heap.size, 0, none⟩ = some (vStr yy.name) from (bx2.ch0 p.ch).cell 0)
                have y1 := fun p : Later W3 => (show p.world.cell? ⟨w8.heap.size, 1, none⟩ = some (vU64 yy.epoch) from (bx2.ch0 p.ch).cell 1)
                have y2 := fun p : Later W3 => (show p.world.cell? ⟨w8.heap.size, 2, none⟩ = some (vByte yy.state) from (bx2.ch0 p.ch).cell 2)
                have y3 := fun p : Later W3 => (show p.world.cell? ⟨w8.heap.size, 3, none⟩ = some (.slice T2 yy.tokens.length m2) from (bx2.ch0 p.ch).cell 3)
                rw [HW.out]
                have HB1 := hide bx1c
                have HB2 := hide bx2
                clear bx1c bx2 elx ely nx ny lx ly
                refine wp_region_later (by kernel_rfl) (by kernel_rfl) ?_
                (repeat (go_big_quiet_step (first | (go_at_call 37; with_reducible exact Calls.later (HB _)) | (go_at_call 46; first | (with_reducible exact Calls.later (HX _)) | (with_reducible exact Calls.later (HY _))))))
                refine wpQuiet_nil ?_; intro _ hw'; obtain ⟨⟨wq, hwz⟩, hw''⟩ := hw'; subst hw''; try dsimp only
                rename_i wz
                go_wp2
                go_meet
                exact ⟨_, rfl, HZ.out, HB1.out.ch0 hwz, HB2.out.ch0 hwz, hc3.trans0 hwz⟩
              · have HZ : Hid ((if false = true then yy else xx) = zz) := hide (show xx = zz from by rw [← hzc, cnt_ref nx ny hnn, if_neg (by omega)])
                clear hzc nx ny hnn
                have q1 : ¬ (xx.epoch : Int) < (yy.epoch : Int) := by omega
                have q2 : ((yy.epoch : Int) == (xx.epoch : Int)) = false := by simp; omega
                clear h
                have x0 := bx1c.cell 0
                have x1 := bx1c.cell 1
                have x2 := bx1c.cell 2
                have x3 := bx1c.cell 3
                have y0 := bx2.cell 0
                have y1 := bx2.cell 1
                have y2 := bx2.cell 2
                have y3 := bx2.cell 3
                go_quiet (fail)
                go_wp2
                go_meet
                exact ⟨_, rfl, HZ.out, bx1c.ch0 (by (repeat (first | exact Ch.refl _ _ | refine Ch.drewN ?_ _ | refine Ch.drew ?_ | refine Ch.alloc ?_ _))), bx2.ch0 (by (repeat (first | exact Ch.refl _ _ | refine Ch.drewN ?_ _ | refine Ch.drew ?_ | refine Ch.alloc ?_ _))), by (repeat (first | exact Ch.refl _ _ | refine Ch.drewN ?_ _ | refine Ch.drew ?_ | refine Ch.alloc ?_ _))⟩
          case rest =>
            obtain ⟨q, rfl, hzz, bx, by_, hcc⟩ := hcut
            have HZ := hide hzz
            clear hzz
            apply_assumption
            obtain ⟨wa, rfl⟩ : ∃ wa, wa = wc := ⟨_, rfl⟩
            go_cut [] (fun wd => ∃ T m, Blk wd w7.heap.size 31 [vStr zz.name, vU64 zz.epoch, vByte zz.state, .slice T zz.tokens.length m] ∧ Kd.u64.At wd okk (.slice T zz.tokens.length m) zz.tokens ∧ Ch [w7.heap.size] wa wd)
            case first =>
              rcases q with _ | _
              · obtain rfl : xx = zz := by have := HZ.out; rwa [if_neg (by simp)] at this
                go_wp2
                go_meet
                exact ⟨_, _, bx, ((ht1'.ch0 ((Ch.refl [] w7).alloc _)).ch0 hch8).ch0 hcc, Ch.refl _ _⟩
              · obtain rfl : yy = zz := by have := HZ.out; rwa [if_pos rfl] at this
                have f0 := bx.frozen 0
                have f1 := bx.frozen 1
                have f2 := bx.frozen 2
                have f3 := bx.frozen 3
                have x0 := bx.cell 0
                have x1 := bx.cell 1
                have x2 := bx.cell 2
                have x3 := bx.cell 3
                have y0 := by_.cell 0
                have y1 := by_.cell 1
                have y2 := by_.cell 2
                have y3 := by_.cell 3
                go_wp2
                go_meet
                exact ⟨_, _, (((bx.set_ 0 _).set_ 1 _).set_ 2 _).set_ 3 _, (ht2'.ch0 hcc).ch (by (repeat (first | exact Ch.refl _ _ | refine Ch.drewN ?_ _ | refine Ch.drew ?_ | refine Ch.setCell ?_ (.inl (by simp)) _ | refine Ch.alloc ?_ _ | refine Ch.trans0 ?_ hch8 | refine Ch.trans0 ?_ hlw))) (fun k hk hl => hokb k hk _ hl), by (repeat (first | exact Ch.refl _ _ | refine Ch.drewN ?_ _ | refine Ch.drew ?_ | refine Ch.setCell ?_ (.inl (by simp)) _ | refine Ch.alloc ?_ _ | refine Ch.trans0 ?_ hch8 | refine Ch.trans0 ?_ hlw))⟩
            case rest =>
              obtain ⟨T, m, bz, htz, hcd⟩ := hcut
              apply_assumption
              have hcw1 : Ch [] w7 wa := (((Ch.refl [] w7).alloc _).trans0 hch8).trans0 hcc
              have hcwd : Ch [] w1 wc := ((hcr2.trans0 hch7).trans0 hcw1).trans hcd (fun t ht => by have := hcr2.size; simp at ht; omega)
              have hown' := hown.ch0 ((hcq.trans0 (hch7.trans0 hcw1)).trans hcd (fun t ht => .inr (by have := hcq.size; simp at ht; omega)))
              have hsz := hcwd.size
              have z0 := bz.cell 0
              have z1 := bz.cell 1
              have z2 := bz.cell 2
              have z3 := bz.cell 3
              go_wp2_with ((at_builtin; refine Kd.wpList_append Kd.mem rfl (.tmp 117) (.tmp 119) 22 31 _ 56 rfl Try.underlying22 Try.infoMem rfl (by decide) (by decide) (v := .slice Av out.length cv) rfl rfl rfl (p := zz) (cs := [vStr zz.name, vU64 zz.epoch, vByte zz.state, .slice T zz.tokens.length m]) ⟨_, rfl, htz.mono hokn⟩ hown' hsz (by omega) ?_; intro v1 w9 hown9 hch9 hat9; obtain ⟨A9, c9, rfl⟩ := hown9.form))
              go_roundw
              case rel => exact ⟨out ++ [zz], hoz, by simp; omega, by rw [List.length_append] at hown9; exact hown9, hcwd.trans hch9 (fun t ht => .inr (hrb t (by simpa using ht)).1)⟩
              case measure => simp [vlen]; omega
end Go.Proofs.Ytmojbpgabpbacaa
