/- Package ring: Join. -/
import Derived.Test.YtmojbpgabpbacaaRing2
import Derived.Test.YtmojbpgabpbacaaOpenMem
import Derived.Deep.RegionLaw
namespace Go.Proofs.Ytmojbpgabpbacaa
open Go.RowKit

/-- A member with tokens of its own. -/
def Kd.memO : Kd Member where
  sz := 4
  K := fun w ok x cs => ∃ t, cs = [vStr x.name, vU64 x.epoch, vByte x.state, t] ∧ Kd.u64.Own 23 w 0 (fun _ => True) t x.tokens ∧ ∀ k, t.ownBlock = some k → ok k
  len := by rintro w ok x cs ⟨t, rfl, _⟩; rfl
  one := by
    rintro w ok x cs ⟨t, rfl, h, _⟩ u hu
    simp only [List.mem_cons, List.not_mem_nil, or_false] at hu
    obtain ⟨A, c, rfl⟩ := h.form
    rcases hu with rfl | rfl | rfl | rfl <;> rfl
  mono := by rintro w ok ok' x cs hk ⟨t, rfl, h, h2⟩; exact ⟨t, rfl, h, fun k h3 => hk k (h2 k h3)⟩
  bound := by rintro w ok x cs ⟨t, rfl, h, h2⟩; exact ⟨t, rfl, h, fun k h3 => ⟨h2 k h3, (h.block k h3).2⟩⟩
  move := by
    rintro w w' ok x cs hm hs ⟨t, rfl, ⟨inner, h1, h3⟩, h2⟩
    exact ⟨t, rfl, ⟨inner, Kd.ownsRow_move h1 (fun k hk => hm k (h2 k hk) (h1.lt k hk).2), h3⟩, h2⟩
theorem Kd.memO_mem {w : World} {ok : Nat → Prop} {x : Member} {cs : List Value} (h : Kd.memO.K w ok x cs) : Kd.mem.K w ok x cs := by
  obtain ⟨t, rfl, h1, h2⟩ := h
  have h3 := h1.at_ (fun _ _ => trivial)
  refine ⟨t, rfl, ?_⟩
  obtain ⟨A, c, rfl⟩ := h1.form
  obtain ⟨inner, hr, hp⟩ := h1
  rcases hr.2 with ⟨e, h0⟩ | ⟨g, cap, cur, e, hg, hh, r⟩
  · injection e with e1 e2 e3
    subst e1 e3
    have : x.tokens = [] := List.eq_nil_of_length_eq_zero h0
    rw [this]
    exact Kd.At.nil _ _ _
  · injection e with e1 e2 e3
    subst e1 e3
    obtain ⟨A', c', hv, hle, hcm, hrow⟩ := h3
    injection hv with f1 f2 f3
    subst f1 f3
    refine ⟨_, _, rfl, hle, hcm, fun hn => ?_⟩
    obtain ⟨b, o, e, _, hb, hc⟩ := hrow hn
    injection e with e
    injection e with e1 e2
    subst e1 e2
    exact ⟨_, _, rfl, h2 _ (by simp [Value.ownBlock]), hb, hc⟩
theorem Kd.memO_at {w : World} {ok : Nat → Prop} {v : Value} {xs : List Member} (h : Kd.memO.At w ok v xs) : Kd.mem.At w ok v xs := by
  obtain ⟨A, c, rfl, h1, h2, h3⟩ := h
  refine ⟨A, c, rfl, h1, h2, fun hn => ?_⟩
  obtain ⟨b, o, e, h4, h5, h6⟩ := h3 hn
  refine ⟨b, o, e, h4, h5, fun j x hj => ?_⟩
  obtain ⟨cs, h7, h8⟩ := h6 j x hj
  exact ⟨cs, Kd.memO_mem h7, h8⟩
/-- append(v, x) as a step of a region. -/
theorem Kd.step_append {α : Type} {P : Program} {ops : Array Oper} {o : Oper} {a : Act} {Q : Exit → Act → World → Prop} {K : Act → World → Prop} {E : Prop} (d : Kd α) {W : World} {base : Nat} {ok : Nat → Prop} (hgd : o.guard = none) (s x : Operand) (t e : TypeId) (z : Value) (bytes : Nat)
    (ho : o.op = .call { callee := .builtin .append, args := #[s, x], argTypes := #[t, t] })
    (ht : P.underlying t = some (.slice e)) (hinfo : (P.info? e).map (fun i => (i.zero, i.size, i.bytes)) = some (some z, d.sz, bytes)) (hz : z.cells.size = d.sz) (hs0 : 0 < d.sz) (hb0 : 0 < bytes)
    {v : Value} {xs : List α} {p : α} {cs : List Value} (hs : a.eval s = v) {B : Nat} (hx : a.eval x = .slice (some ⟨B, 0, none⟩) 1 1) (hB : W.heap.size = B) (hp : d.K W (fun k => ok k ∧ some k ≠ v.ownBlock) p cs)
    (HO : d.Own e W base ok v xs) (hbase : base ≤ W.heap.size) (hl : (xs.length + 1) * bytes ≤ 140737488355328)
    (h : ∀ v1 w1, d.Own e w1 base ok v1 (xs ++ [p]) → Ch v.ownBlock.toList W w1 → (v1.ownBlock = v.ownBlock ∨ ∃ b, v1.ownBlock = some b ∧ W.heap.size ≤ b) → K (a.put o.dst v1) w1) :
    if Region.wanted o (yielded ops a.tmps) = true then Oper.wp P o a (W.alloc (.cells cs.toArray e)) K Q else E := by
  rw [if_pos (by simp [Region.wanted, hgd])]
  exact append_core d s x t e z bytes ho ht hinfo hz hs0 hb0 hs hx hB hp HO hbase hl h

/-- The first of a ring, and the rest. -/
theorem mem_head {w : World} {ok : Nat → Prop} {v : Value} {x : Member} {r : List Member} (h : Kd.mem.At w ok v (x :: r)) : ∃ g o c, v = .slice (some ⟨g, o, none⟩) (r.length + 1) c ∧ r.length + 1 ≤ c ∧ (c : Int) ≤ 9223372036854775807 ∧ g < w.heap.size ∧
    Kd.mem.Row w ok (some ⟨g, o, none⟩) (x :: r) ∧ (c = 1 → Kd.mem.At w ok (.slice (some ⟨g, o, none⟩) r.length 0) r) ∧ (Kd.mem.At w ok (.slice (some ⟨g, o + 4, none⟩) r.length (c - 1)) r) := by
  obtain ⟨A, c, rfl, h1, h2, h3⟩ := h
  obtain ⟨g, o, rfl, hg, hgl⟩ := h3.addr (by simp)
  have h4 := h3.drop 1
  unfold maxLen at h2
  simp only [List.length_cons] at h1
  refine ⟨g, o, c, rfl, h1, by omega, hgl, h3, fun hc => ?_, ⟨_, c - 1, rfl, by omega, by unfold maxLen; omega, ?_⟩⟩
  · have : r = [] := List.eq_nil_of_length_eq_zero (by omega)
    subst this
    exact ⟨_, 0, rfl, Nat.le_refl _, Nat.zero_le _, Kd.Row.nil _ _ _ _⟩
  · simpa [Kd.mem] using h4
theorem mem_head_cells {w : World} {ok : Nat → Prop} {g o : Nat} {x : Member} {r : List Member} (h : Kd.mem.Row w ok (some ⟨g, o, none⟩) (x :: r)) :
    ∃ T m, w.cell? ⟨g, o, none⟩ = some (vStr x.name) ∧ w.cell? ⟨g, o + 1, none⟩ = some (vU64 x.epoch) ∧ w.cell? ⟨g, o + 2, none⟩ = some (vByte x.state) ∧ w.cell? ⟨g, o + 3, none⟩ = some (.slice T x.tokens.length m) ∧ Kd.u64.At w ok (.slice T x.tokens.length m) x.tokens := by
  obtain ⟨T, m, c0, c1, c2, c3, ht⟩ := Kd.mem_cells h (k := 0) (by simp)
  exact ⟨T, m, by simpa using c0, by simpa using c1, by simpa using c2, by simpa using c3, ht⟩
theorem memO_new {w : World} {base B : Nat} {v : Value} {x : Member} {t : Value} (h : Kd.u64.Own 23 w B (fun _ => True) t x.tokens) (hB : base ≤ B) (hv : ∀ k, v.ownBlock = some k → k < B) :
    Kd.memO.K w (fun k => base ≤ k ∧ some k ≠ v.ownBlock) x [vStr x.name, vU64 x.epoch, vByte x.state, t] :=
  ⟨t, rfl, h.low (Nat.zero_le _), fun k hk => ⟨Nat.le_trans hB (h.block k hk).1, fun e => by have := hv k e.symm; have := (h.block k hk).1; omega⟩⟩
theorem joinM_lt {x y : Member} {a b : List Member} (h : below x.name y.name = true) : joinM (x :: a) (y :: b) = x :: joinM a (y :: b) := by rw [joinM, if_pos h]
theorem joinM_gt {x y : Member} {a b : List Member} (h : below x.name y.name = false) (h2 : below y.name x.name = true) : joinM (x :: a) (y :: b) = y :: joinM (x :: a) b := by rw [joinM, if_neg (by simp [h]), if_pos h2]
theorem joinM_eq {x y : Member} {a b : List Member} (h : below x.name y.name = false) (h2 : below y.name x.name = false) : joinM (x :: a) (y :: b) = cnt x y :: joinM a b := by rw [joinM, if_neg (by simp [h]), if_neg (by simp [h2])]
theorem cnt_in (x y : Member) (hx : x.tokens.length ≤ 16) (hy : y.tokens.length ≤ 16) : (cnt x y).tokens.length ≤ 16 := by
  rcases cnt_or x y with e | e <;> rw [e] <;> assumption
theorem counts_c (w : World) (ok : Nat → Prop) (x y : Member) (t s : Value) (hx : memNums x) (hy : memNums y) (hlx : x.tokens.length ≤ 16) (hly : y.tokens.length ≤ 16) (ht : Kd.u64.At w ok t x.tokens) (hs : Kd.u64.At w ok s y.tokens) :
    Calls Try.prog 45 #[vMem x t, vMem y s] w fun r w' => ∃ u, r = .returned (vMem (cnt x y) u) ∧ Kd.u64.At w' ok u (cnt x y).tokens ∧ Ch [] w w' := by
  refine (counts_w w ok x y t s hx hy hlx hly ht hs).mono ?_
  rintro e w' ⟨rfl, hch⟩
  by_cases h : cntB x y
  · have e : cnt x y = x := if_pos h
    rw [if_pos h, e]
    exact ⟨t, rfl, ht.ch0 hch, hch⟩
  · have e : cnt x y = y := if_neg h
    rw [if_neg h, e]
    exact ⟨s, rfl, hs.ch0 hch, hch⟩
def vlen : Value → Nat
  | .slice _ n _ => n
  | _ => 0
/-- What is known of each member of a right ring that came in. -/
def memIn (x : Member) : Prop := memNums x ∧ x.tokens.length ≤ 16
theorem Try.infoMem : (Try.prog.info? 31).map (fun i => (i.zero, i.size, i.bytes)) = some (some (.agg #[.string ⟨#[]⟩, .int .u64 0, .int .u8 0, .slice none 0 0]), 4, 56) := by kernel_rfl

set_option maxRecDepth 100000 in
set_option maxHeartbeats 6400000 in
theorem join_w (w : World) (ok : Nat → Prop) (va vb : Value) (a b : List Member) (na : ∀ x ∈ a, memNums x) (nb : ∀ x ∈ b, memNums x) (ha : Kd.mem.At w ok va a) (hb : Kd.mem.At w ok vb b) :
    Calls Try.prog 13 #[va, vb] w fun r w' => ∃ v, r = .returned (.tuple #[v, vErr (joinAns a b).2]) ∧ Kd.memO.Own 31 w' w.heap.size (fun k => w.heap.size ≤ k) v (joinAns a b).1 ∧ Ch [] w w' := by
  refine calls_hide fun K hK => ?_
  have ha := ha.bound
  have hb := hb.bound
  by_cases hca : chkRing a = 0
  · by_cases hcb : chkRing b = 0
    · have q1 : (chkRing a != 0) = false := by simp [hca]
      have q2 : (chkRing b != 0) = false := by simp [hcb]
      obtain ⟨la, oa⟩ := chkRing_ok hca
      obtain ⟨lb, ob⟩ := chkRing_ok hcb
      have ga : Hid (∀ x ∈ a, memIn x) := hide fun x hx => ⟨na x hx, (oa x hx).2.2.2.2⟩
      have gb : Hid (∀ x ∈ b, memIn x) := hide fun x hx => ⟨nb x hx, (ob x hx).2.2.2.2⟩
      have HCK := hide (And.intro hca hcb)
      clear hca hcb oa ob na nb
      have ha0 := ha
      have hb0 := hb
      obtain ⟨A, c, rfl, hlc, hcm, hrow⟩ := ha
      obtain ⟨B, d, rfl, hld, hdm, hrowb⟩ := hb
      go_enter Try.func13, Try.ntmps13
      go_wp2_with (first
        | (go_at_call 38; first | ((with_reducible refine (ringCheck_w _ _ _ _ ha0).mono ?_); rintro e w1 ⟨rfl, hch1⟩; have hb1 := hb0.ch0 hch1) | ((with_reducible refine (ringCheck_w _ _ _ _ hb1).mono ?_); rintro e w2 ⟨rfl, hch2⟩; have hch12 := hch1.trans0 hch2)))
      clear hrow hrowb hlc hld hcm hdm
      go_loopw [0, 1, 6] (fun av bv ov wr => ∃ (a' b' done : List Member), Hid (joinM a b = done ++ joinM a' b') ∧ Kd.mem.At w (fun k => ok k ∧ k < w.heap.size) av a' ∧ Kd.mem.At w (fun k => ok k ∧ k < w.heap.size) bv b' ∧ Hid (∀ x ∈ a', memIn x) ∧ Hid (∀ x ∈ b', memIn x) ∧ Kd.memO.Own 31 wr w.heap.size (fun k => w.heap.size ≤ k) ov done ∧ done.length + a'.length + b'.length ≤ 64 ∧ Ch [] w wr) (fun av bv _ _ => vlen av + vlen bv)
      case atStart => exact ⟨a, b, [], hide rfl, ha0, hb0, ga, gb, Kd.Own.nil _ _ _ _ _, by simp; omega, hch12⟩
      case round =>
        clear ga gb ha0 hb0 hch12 hch1 hb1 hch2
        obtain ⟨a', b', done, hj, ha, hb, ga, gb, hown, hlen, hch⟩ := hrel
        obtain ⟨Av, cv, rfl⟩ := hown.form
        rcases a' with _ | ⟨x, a2⟩
        · have ha' := ha
          obtain ⟨A, c, rfl, hlc, hcm, hrow⟩ := ha
          unfold maxLen at hcm
          rcases b' with _ | ⟨y, b2⟩
          · obtain ⟨B, d, rfl, hld, hdm, hrowb⟩ := hb
            unfold maxLen at hdm
            have hjd : joinM a b = done := by rw [hj.out, joinM_nil]; simp
            by_cases h32 : 32 < done.length
            · have HA := hide (show joinAns a b = ([], 3) by unfold joinAns; rw [if_neg (by simp [HCK.out]), hjd, if_pos h32])
              clear hj hjd
              go_wp2
              exact hK.out _ _ ⟨.slice none 0 0, by rw [HA.out]; rfl, by rw [HA.out]; exact Kd.Own.nil _ _ _ _ _, hch⟩
            · have HA := hide (show joinAns a b = (done, 0) by unfold joinAns; rw [if_neg (by simp [HCK.out]), hjd, if_neg h32])
              clear hj hjd
              go_wp2
              exact hK.out _ _ ⟨.slice Av done.length cv, by rw [HA.out]; rfl, by rw [HA.out]; exact hown, hch⟩
          · obtain ⟨g2, o2, d, rfl, hld, hdm, hgl2, hrow2, hdut1, hdut⟩ := mem_head hb
            obtain ⟨S, s, d0, d1, d2, d3, hs⟩ := mem_head_cells (hrow2.ch0 hch)
            obtain ⟨gy1, gy2⟩ := gb.out y (by simp)
            have HJ := hide (show joinM a b = (done ++ [y]) ++ joinM [] b2 by rw [hj.out, joinM_nil', joinM_nil']; simp)
            clear hj
            have qb : ((b2.length : Int) + 1 == 0) = false := by simp; omega
            by_cases hd1 : d = 1
            · have hdt := hdut1 hd1
              subst hd1
              obtain rfl : b2 = [] := List.eq_nil_of_length_eq_zero (by omega)
              clear hdut hdut1
              go_wp2
              go_quiet (fail)
              go_wp2
              go_quiet (fail)
              have hrb : ∀ k, (Value.slice Av done.length cv).ownBlock = some k → k < wr.heap.size := fun k hk => (hown.block k hk).2
              have hwr := hch.size
              go_wp2_with (first
                | (go_at_call 44; refine (copied_w _ _ y _ gy2 (hs.ch0 ((Ch.refl [] wr).drewN _))).mono ?_; rintro e w7 ⟨t', rfl, htown, hch7⟩; obtain ⟨T', m', rfl⟩ := htown.form)
                | (at_builtin; refine Kd.wpList_append Kd.memO rfl (.tmp 82) (.tmp 87) 22 31 _ 56 rfl Try.underlying22 Try.infoMem rfl (by decide) (by decide) (v := .slice Av done.length cv) rfl rfl rfl (p := y) (cs := [vStr (y).name, vU64 (y).epoch, vByte (y).state, .slice T' (y).tokens.length m']) (memO_new htown hwr hrb) (hown.ch0 (((Ch.refl [] wr).drewN _).trans' hch7)) (Nat.le_trans hwr hch7.size) (by simp at hlen; omega) ?_; intro v1 w8 hown8 hch8 hat8))
              go_roundw
              case rel => exact ⟨[], [], done ++ [y], HJ, ha', hdt, ga, hide (fun z hz => gb.out z (by simp [hz])), hown8, by simp at hlen ⊢; omega, (hch.trans' (((Ch.refl [] wr).drewN _).trans' hch7)).trans hch8 (fun t ht => .inr (hown.block t (by simpa using ht)).1)⟩
              case measure => simp [vlen]; try omega
            · clear hdut1
              go_wp2
              go_quiet (fail)
              go_wp2
              go_quiet (fail)
              have hrb : ∀ k, (Value.slice Av done.length cv).ownBlock = some k → k < wr.heap.size := fun k hk => (hown.block k hk).2
              have hwr := hch.size
              go_wp2_with (first
                | (go_at_call 44; refine (copied_w _ _ y _ gy2 (hs.ch0 ((Ch.refl [] wr).drewN _))).mono ?_; rintro e w7 ⟨t', rfl, htown, hch7⟩; obtain ⟨T', m', rfl⟩ := htown.form)
                | (at_builtin; refine Kd.wpList_append Kd.memO rfl (.tmp 82) (.tmp 87) 22 31 _ 56 rfl Try.underlying22 Try.infoMem rfl (by decide) (by decide) (v := .slice Av done.length cv) rfl rfl rfl (p := y) (cs := [vStr (y).name, vU64 (y).epoch, vByte (y).state, .slice T' (y).tokens.length m']) (memO_new htown hwr hrb) (hown.ch0 (((Ch.refl [] wr).drewN _).trans' hch7)) (Nat.le_trans hwr hch7.size) (by simp at hlen; omega) ?_; intro v1 w8 hown8 hch8 hat8))
              go_roundw
              case rel => exact ⟨[], b2, done ++ [y], HJ, ha', hdut, ga, hide (fun z hz => gb.out z (by simp [hz])), hown8, by simp at hlen ⊢; omega, (hch.trans' (((Ch.refl [] wr).drewN _).trans' hch7)).trans hch8 (fun t ht => .inr (hown.block t (by simpa using ht)).1)⟩
              case measure => simp [vlen]; try omega
        · obtain ⟨g, o, c, rfl, hlc, hcm, hgl, hrow, hcut1, hcut⟩ := mem_head ha
          obtain ⟨T, m, c0, c1, c2, c3, ht⟩ := mem_head_cells (hrow.ch0 hch)
          obtain ⟨gx1, gx2⟩ := ga.out x (by simp)
          rcases b' with _ | ⟨y, b2⟩
          · have hb' := hb
            obtain ⟨B, d, rfl, hld, hdm, hrowb⟩ := hb
            unfold maxLen at hdm
            have HJ := hide (show joinM a b = (done ++ [x]) ++ joinM a2 [] by rw [hj.out, joinM_nil, joinM_nil]; simp)
            clear hj
            by_cases hc1 : c = 1
            · have hct := hcut1 hc1
              subst hc1
              obtain rfl : a2 = [] := List.eq_nil_of_length_eq_zero (by omega)
              clear hcut hcut1
              go_wp2
              go_quiet (fail)
              have hrb : ∀ k, (Value.slice Av done.length cv).ownBlock = some k → k < wr.heap.size := fun k hk => (hown.block k hk).2
              have hwr := hch.size
              go_wp2_with (first
                | (go_at_call 44; refine (copied_w _ _ x _ gx2 (ht.ch0 ((Ch.refl [] wr).drewN _))).mono ?_; rintro e w7 ⟨t', rfl, htown, hch7⟩; obtain ⟨T', m', rfl⟩ := htown.form)
                | (at_builtin; refine Kd.wpList_append Kd.memO rfl (.tmp 58) (.tmp 63) 22 31 _ 56 rfl Try.underlying22 Try.infoMem rfl (by decide) (by decide) (v := .slice Av done.length cv) rfl rfl rfl (p := x) (cs := [vStr (x).name, vU64 (x).epoch, vByte (x).state, .slice T' (x).tokens.length m']) (memO_new htown hwr hrb) (hown.ch0 (((Ch.refl [] wr).drewN _).trans' hch7)) (Nat.le_trans hwr hch7.size) (by simp at hlen; omega) ?_; intro v1 w8 hown8 hch8 hat8))
              go_roundw
              case rel => exact ⟨[], [], done ++ [x], HJ, hct, hb', hide (fun z hz => ga.out z (by simp [hz])), gb, hown8, by simp at hlen ⊢; omega, (hch.trans' (((Ch.refl [] wr).drewN _).trans' hch7)).trans hch8 (fun t ht => .inr (hown.block t (by simpa using ht)).1)⟩
              case measure => simp [vlen]; try omega
            · clear hcut1
              go_wp2
              go_quiet (fail)
              have hrb : ∀ k, (Value.slice Av done.length cv).ownBlock = some k → k < wr.heap.size := fun k hk => (hown.block k hk).2
              have hwr := hch.size
              go_wp2_with (first
                | (go_at_call 44; refine (copied_w _ _ x _ gx2 (ht.ch0 ((Ch.refl [] wr).drewN _))).mono ?_; rintro e w7 ⟨t', rfl, htown, hch7⟩; obtain ⟨T', m', rfl⟩ := htown.form)
                | (at_builtin; refine Kd.wpList_append Kd.memO rfl (.tmp 58) (.tmp 63) 22 31 _ 56 rfl Try.underlying22 Try.infoMem rfl (by decide) (by decide) (v := .slice Av done.length cv) rfl rfl rfl (p := x) (cs := [vStr (x).name, vU64 (x).epoch, vByte (x).state, .slice T' (x).tokens.length m']) (memO_new htown hwr hrb) (hown.ch0 (((Ch.refl [] wr).drewN _).trans' hch7)) (Nat.le_trans hwr hch7.size) (by simp at hlen; omega) ?_; intro v1 w8 hown8 hch8 hat8))
              go_roundw
              case rel => exact ⟨a2, [], done ++ [x], HJ, hcut, hb', hide (fun z hz => ga.out z (by simp [hz])), gb, hown8, by simp at hlen ⊢; omega, (hch.trans' (((Ch.refl [] wr).drewN _).trans' hch7)).trans hch8 (fun t ht => .inr (hown.block t (by simpa using ht)).1)⟩
              case measure => simp [vlen]; try omega
          · have ha' := ha
            have hb' := hb
            obtain ⟨g2, o2, d, rfl, hld, hdm, hgl2, hrow2, hdut1, hdut⟩ := mem_head hb
            obtain ⟨S, s, d0, d1, d2, d3, hs⟩ := mem_head_cells (hrow2.ch0 hch)
            obtain ⟨gy1, gy2⟩ := gb.out y (by simp)
            rcases hlt : below x.name y.name with _ | _
            · rcases hgt : below y.name x.name with _ | _
              · have hnm := below_total _ _ hlt hgt
                have qa : ((a2.length : Int) + 1 == 0) = false := by simp; omega
                have qb : ((b2.length : Int) + 1 == 0) = false := by simp; omega
                have hz := cnt_in x y gx2 gy2
                have HC := fun W => counts_c W (fun k => ok k ∧ k < w.heap.size) x y (.slice T x.tokens.length m) (.slice S y.tokens.length s) gx1 gy1 gx2 gy2
                have HJ := hide (show joinM a b = (done ++ [cnt x y]) ++ joinM a2 b2 by rw [hj.out, joinM_eq hlt hgt]; simp)
                obtain ⟨z, hzz⟩ : ∃ z, cnt x y = z := ⟨_, rfl⟩
                rw [hzz] at hz HJ
                clear hj hnm
                have hrb : ∀ k, (Value.slice Av done.length cv).ownBlock = some k → k < wr.heap.size := fun k hk => (hown.block k hk).2
                have hwr := hch.size
                go_wp2
                go_quiet (fail)
                go_wp2
                go_quiet (fail)
                go_wp2
                go_region_law (first
                  | (refine Kd.step_append Kd.memO rfl (.tmp 23) (.tmp 32) 22 31 _ 56 rfl Try.underlying22 Try.infoMem rfl (by decide) (by decide) (v := .slice Av done.length cv) (by simp [Act.eval]) (B := w7.heap.size) (by simp [Act.eval]) rfl (p := z) (cs := [vStr z.name, vU64 z.epoch, vByte z.state, .slice T' z.tokens.length m']) (memO_new htown hB5 hr5) (hown.ch0 hcw7) (Nat.le_trans hwr hcw7.size) (by simp at hlen; omega) ?_; intro v1 w8 hown8 hch8 hat8)
                  | (go_simp; go_at_call 45; refine (HC _ ?_ ?_).mono ?_; exact ht.ch0 (by (repeat (first | exact Ch.refl _ _ | refine Ch.drewN ?_ _ | refine Ch.drew ?_))); exact hs.ch0 (by (repeat (first | exact Ch.refl _ _ | refine Ch.drewN ?_ _ | refine Ch.drew ?_))); rintro e w5 ⟨u, rfl, hu, hch5⟩; rw [hzz] at hu ⊢; have hcw5 : Ch [] wr w5 := Ch.trans' (by (repeat (first | exact Ch.refl _ _ | refine Ch.drewN ?_ _ | refine Ch.drew ?_))) hch5; have hB5 := Nat.le_trans hwr hcw5.size; have hr5 : ∀ k, (Value.slice Av done.length cv).ownBlock = some k → k < w5.heap.size := fun k hk => Nat.lt_of_lt_of_le (hrb k hk) hcw5.size)
                  | (go_simp; go_at_call 44; refine (copied_w _ _ z u hz hu).mono ?_; rintro e w7 ⟨t', rfl, htown, hch7⟩; obtain ⟨T', m', rfl⟩ := htown.form; have hcw7 : Ch [] wr w7 := hcw5.trans' hch7))
                all_goals
                  go_simp
                  by_cases hc1 : c = 1
                  · by_cases hd1 : d = 1
                    · have hct := hcut1 hc1
                      subst hc1
                      obtain rfl : a2 = [] := List.eq_nil_of_length_eq_zero (by omega)
                      have hdt := hdut1 hd1
                      subst hd1
                      obtain rfl : b2 = [] := List.eq_nil_of_length_eq_zero (by omega)
                      clear hcut hcut1 hdut hdut1
                      go_wp2
                      go_quiet (fail)
                      go_wp2
                      go_roundw
                      case rel => exact ⟨[], [], done ++ [z], HJ, hct, hdt, hide (fun z hz => ga.out z (by simp [hz])), hide (fun z hz => gb.out z (by simp [hz])), hown8.ch0 (by (repeat (first | exact Ch.refl _ _ | refine Ch.drewN ?_ _ | refine Ch.drew ?_))), by simp at hlen ⊢; omega, ((hch.trans' hcw7).trans hch8 (fun t ht => .inr (hown.block t (by simpa using ht)).1)).trans' (by (repeat (first | exact Ch.refl _ _ | refine Ch.drewN ?_ _ | refine Ch.drew ?_)))⟩
                      case measure => simp [vlen]; try omega
                    · have hct := hcut1 hc1
                      subst hc1
                      obtain rfl : a2 = [] := List.eq_nil_of_length_eq_zero (by omega)
                      have hdt := hdut
                      clear hcut hcut1 hdut hdut1
                      go_wp2
                      go_quiet (fail)
                      go_wp2
                      go_roundw
                      case rel => exact ⟨[], b2, done ++ [z], HJ, hct, hdt, hide (fun z hz => ga.out z (by simp [hz])), hide (fun z hz => gb.out z (by simp [hz])), hown8.ch0 (by (repeat (first | exact Ch.refl _ _ | refine Ch.drewN ?_ _ | refine Ch.drew ?_))), by simp at hlen ⊢; omega, ((hch.trans' hcw7).trans hch8 (fun t ht => .inr (hown.block t (by simpa using ht)).1)).trans' (by (repeat (first | exact Ch.refl _ _ | refine Ch.drewN ?_ _ | refine Ch.drew ?_)))⟩
                      case measure => simp [vlen]; try omega
                  · by_cases hd1 : d = 1
                    · have hct := hcut
                      have hdt := hdut1 hd1
                      subst hd1
                      obtain rfl : b2 = [] := List.eq_nil_of_length_eq_zero (by omega)
                      clear hcut hcut1 hdut hdut1
                      go_wp2
                      go_quiet (fail)
                      go_wp2
                      go_roundw
                      case rel => exact ⟨a2, [], done ++ [z], HJ, hct, hdt, hide (fun z hz => ga.out z (by simp [hz])), hide (fun z hz => gb.out z (by simp [hz])), hown8.ch0 (by (repeat (first | exact Ch.refl _ _ | refine Ch.drewN ?_ _ | refine Ch.drew ?_))), by simp at hlen ⊢; omega, ((hch.trans' hcw7).trans hch8 (fun t ht => .inr (hown.block t (by simpa using ht)).1)).trans' (by (repeat (first | exact Ch.refl _ _ | refine Ch.drewN ?_ _ | refine Ch.drew ?_)))⟩
                      case measure => simp [vlen]; try omega
                    · have hct := hcut
                      have hdt := hdut
                      clear hcut hcut1 hdut hdut1
                      go_wp2
                      go_quiet (fail)
                      go_wp2
                      go_roundw
                      case rel => exact ⟨a2, b2, done ++ [z], HJ, hct, hdt, hide (fun z hz => ga.out z (by simp [hz])), hide (fun z hz => gb.out z (by simp [hz])), hown8.ch0 (by (repeat (first | exact Ch.refl _ _ | refine Ch.drewN ?_ _ | refine Ch.drew ?_))), by simp at hlen ⊢; omega, ((hch.trans' hcw7).trans hch8 (fun t ht => .inr (hown.block t (by simpa using ht)).1)).trans' (by (repeat (first | exact Ch.refl _ _ | refine Ch.drewN ?_ _ | refine Ch.drew ?_)))⟩
                      case measure => simp [vlen]; try omega
              · have qa : ((a2.length : Int) + 1 == 0) = false := by simp; omega
                have qb : ((b2.length : Int) + 1 == 0) = false := by simp; omega
                have HJ := hide (show joinM a b = (done ++ [y]) ++ joinM (x :: a2) b2 by rw [hj.out, joinM_gt hlt hgt]; simp)
                clear hj
                have qb : ((b2.length : Int) + 1 == 0) = false := by simp; omega
                by_cases hd1 : d = 1
                · have hdt := hdut1 hd1
                  subst hd1
                  obtain rfl : b2 = [] := List.eq_nil_of_length_eq_zero (by omega)
                  clear hdut hdut1
                  go_wp2
                  go_quiet (fail)
                  go_wp2
                  go_quiet (fail)
                  have hrb : ∀ k, (Value.slice Av done.length cv).ownBlock = some k → k < wr.heap.size := fun k hk => (hown.block k hk).2
                  have hwr := hch.size
                  go_wp2_with (first
                    | (go_at_call 44; refine (copied_w _ _ y _ gy2 (hs.ch0 ((Ch.refl [] wr).drewN _))).mono ?_; rintro e w7 ⟨t', rfl, htown, hch7⟩; obtain ⟨T', m', rfl⟩ := htown.form)
                    | (at_builtin; refine Kd.wpList_append Kd.memO rfl (.tmp 82) (.tmp 87) 22 31 _ 56 rfl Try.underlying22 Try.infoMem rfl (by decide) (by decide) (v := .slice Av done.length cv) rfl rfl rfl (p := y) (cs := [vStr (y).name, vU64 (y).epoch, vByte (y).state, .slice T' (y).tokens.length m']) (memO_new htown hwr hrb) (hown.ch0 (((Ch.refl [] wr).drewN _).trans' hch7)) (Nat.le_trans hwr hch7.size) (by simp at hlen; omega) ?_; intro v1 w8 hown8 hch8 hat8))
                  go_roundw
                  case rel => exact ⟨(x :: a2), [], done ++ [y], HJ, ha', hdt, ga, hide (fun z hz => gb.out z (by simp [hz])), hown8, by simp at hlen ⊢; omega, (hch.trans' (((Ch.refl [] wr).drewN _).trans' hch7)).trans hch8 (fun t ht => .inr (hown.block t (by simpa using ht)).1)⟩
                  case measure => simp [vlen]; try omega
                · clear hdut1
                  go_wp2
                  go_quiet (fail)
                  go_wp2
                  go_quiet (fail)
                  have hrb : ∀ k, (Value.slice Av done.length cv).ownBlock = some k → k < wr.heap.size := fun k hk => (hown.block k hk).2
                  have hwr := hch.size
                  go_wp2_with (first
                    | (go_at_call 44; refine (copied_w _ _ y _ gy2 (hs.ch0 ((Ch.refl [] wr).drewN _))).mono ?_; rintro e w7 ⟨t', rfl, htown, hch7⟩; obtain ⟨T', m', rfl⟩ := htown.form)
                    | (at_builtin; refine Kd.wpList_append Kd.memO rfl (.tmp 82) (.tmp 87) 22 31 _ 56 rfl Try.underlying22 Try.infoMem rfl (by decide) (by decide) (v := .slice Av done.length cv) rfl rfl rfl (p := y) (cs := [vStr (y).name, vU64 (y).epoch, vByte (y).state, .slice T' (y).tokens.length m']) (memO_new htown hwr hrb) (hown.ch0 (((Ch.refl [] wr).drewN _).trans' hch7)) (Nat.le_trans hwr hch7.size) (by simp at hlen; omega) ?_; intro v1 w8 hown8 hch8 hat8))
                  go_roundw
                  case rel => exact ⟨(x :: a2), b2, done ++ [y], HJ, ha', hdut, ga, hide (fun z hz => gb.out z (by simp [hz])), hown8, by simp at hlen ⊢; omega, (hch.trans' (((Ch.refl [] wr).drewN _).trans' hch7)).trans hch8 (fun t ht => .inr (hown.block t (by simpa using ht)).1)⟩
                  case measure => simp [vlen]; try omega
            · have qa : ((a2.length : Int) + 1 == 0) = false := by simp; omega
              have qb : ((b2.length : Int) + 1 == 0) = false := by simp; omega
              have HJ := hide (show joinM a b = (done ++ [x]) ++ joinM a2 (y :: b2) by rw [hj.out, joinM_lt hlt]; simp)
              clear hj
              by_cases hc1 : c = 1
              · have hct := hcut1 hc1
                subst hc1
                obtain rfl : a2 = [] := List.eq_nil_of_length_eq_zero (by omega)
                clear hcut hcut1
                go_wp2
                go_quiet (fail)
                have hrb : ∀ k, (Value.slice Av done.length cv).ownBlock = some k → k < wr.heap.size := fun k hk => (hown.block k hk).2
                have hwr := hch.size
                go_wp2_with (first
                  | (go_at_call 44; refine (copied_w _ _ x _ gx2 (ht.ch0 ((Ch.refl [] wr).drewN _))).mono ?_; rintro e w7 ⟨t', rfl, htown, hch7⟩; obtain ⟨T', m', rfl⟩ := htown.form)
                  | (at_builtin; refine Kd.wpList_append Kd.memO rfl (.tmp 58) (.tmp 63) 22 31 _ 56 rfl Try.underlying22 Try.infoMem rfl (by decide) (by decide) (v := .slice Av done.length cv) rfl rfl rfl (p := x) (cs := [vStr (x).name, vU64 (x).epoch, vByte (x).state, .slice T' (x).tokens.length m']) (memO_new htown hwr hrb) (hown.ch0 (((Ch.refl [] wr).drewN _).trans' hch7)) (Nat.le_trans hwr hch7.size) (by simp at hlen; omega) ?_; intro v1 w8 hown8 hch8 hat8))
                go_roundw
                case rel => exact ⟨[], (y :: b2), done ++ [x], HJ, hct, hb', hide (fun z hz => ga.out z (by simp [hz])), gb, hown8, by simp at hlen ⊢; omega, (hch.trans' (((Ch.refl [] wr).drewN _).trans' hch7)).trans hch8 (fun t ht => .inr (hown.block t (by simpa using ht)).1)⟩
                case measure => simp [vlen]; try omega
              · clear hcut1
                go_wp2
                go_quiet (fail)
                have hrb : ∀ k, (Value.slice Av done.length cv).ownBlock = some k → k < wr.heap.size := fun k hk => (hown.block k hk).2
                have hwr := hch.size
                go_wp2_with (first
                  | (go_at_call 44; refine (copied_w _ _ x _ gx2 (ht.ch0 ((Ch.refl [] wr).drewN _))).mono ?_; rintro e w7 ⟨t', rfl, htown, hch7⟩; obtain ⟨T', m', rfl⟩ := htown.form)
                  | (at_builtin; refine Kd.wpList_append Kd.memO rfl (.tmp 58) (.tmp 63) 22 31 _ 56 rfl Try.underlying22 Try.infoMem rfl (by decide) (by decide) (v := .slice Av done.length cv) rfl rfl rfl (p := x) (cs := [vStr (x).name, vU64 (x).epoch, vByte (x).state, .slice T' (x).tokens.length m']) (memO_new htown hwr hrb) (hown.ch0 (((Ch.refl [] wr).drewN _).trans' hch7)) (Nat.le_trans hwr hch7.size) (by simp at hlen; omega) ?_; intro v1 w8 hown8 hch8 hat8))
                go_roundw
                case rel => exact ⟨a2, (y :: b2), done ++ [x], HJ, hcut, hb', hide (fun z hz => ga.out z (by simp [hz])), gb, hown8, by simp at hlen ⊢; omega, (hch.trans' (((Ch.refl [] wr).drewN _).trans' hch7)).trans hch8 (fun t ht => .inr (hown.block t (by simpa using ht)).1)⟩
                case measure => simp [vlen]; try omega
    · have q1 : (chkRing a != 0) = false := by simp [hca]
      have q2 : (chkRing b != 0) = true := by simp [hcb]
      have HA := hide (show joinAns a b = ([], 1) by simp [joinAns, hcb])
      clear hca hcb
      go_enter Try.func13, Try.ntmps13
      go_wp2_with (first
        | (go_at_call 38; first | ((with_reducible refine (ringCheck_w _ _ _ _ ha).mono ?_); rintro e w1 ⟨rfl, hch1⟩; have hb1 := hb.ch0 hch1) | ((with_reducible refine (ringCheck_w _ _ _ _ hb1).mono ?_); rintro e w2 ⟨rfl, hch2⟩; have hch12 := hch1.trans0 hch2)))
      exact hK.out _ _ ⟨.slice none 0 0, by rw [HA.out]; rfl, by rw [HA.out]; exact Kd.Own.nil _ _ _ _ _, hch12⟩
  · have q1 : (chkRing a != 0) = true := by simp [hca]
    have HA := hide (show joinAns a b = ([], 1) by simp [joinAns, hca])
    clear hca
    go_enter Try.func13, Try.ntmps13
    go_wp2_with (go_at_call 38; refine (ringCheck_w _ _ _ _ ha).mono ?_; rintro e w1 ⟨rfl, hch1⟩)
    exact hK.out _ _ ⟨.slice none 0 0, by rw [HA.out]; rfl, by rw [HA.out]; exact Kd.Own.nil _ _ _ _ _, hch1⟩
end Go.Proofs.Ytmojbpgabpbacaa
