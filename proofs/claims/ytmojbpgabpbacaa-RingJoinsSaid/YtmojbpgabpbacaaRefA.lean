/- The law's 'awake' and the references' small functions: Below, Texts, Find, Great. -/
import Derived.Test.YtmojbpgabpbacaaRing1
import Derived.Handy
namespace Go.Proofs.Ytmojbpgabpbacaa
open Go.RowKit

theorem Kd.one_flat {α : Type} (d : Kd α) (w : World) (t : TypeId) {x : α} {cs : List Value} {ok : Nat → Prop} {B : Nat} (hB : w.heap.size = B) (hk : d.K w ok x cs) (h0 : ok B) :
    d.At (w.alloc (.cells cs.toArray t)) ok (.slice (some ⟨B, 0, none⟩) 1 1) [x] := by
  subst hB
  exact Kd.one_at_ d w t hk h0

set_option maxRecDepth 100000 in
set_option maxHeartbeats 1600000 in
theorem awake22_w (w : World) : Calls Try.prog 7 #[] w fun r w' => r = .returned (.bool true) ∧ Ch [] w w' := by
  refine calls_hide fun K hK => ?_
  have hx : encRing [⟨[110], 1, 1, []⟩] = ([1, 1, 110, 1, 1, 0], 0) := by
    simp [encRing, chkRing, firstErr, memErr, rises, above, risingN, eRing, eMem, eBlob, eRest, eVar_small]
  have hk : Kd.mem.K w (fun _ => True) ⟨[110], 1, 1, []⟩ [vStr [110], vU64 1, vByte 1, .slice none 0 0] := ⟨_, rfl, Kd.At.nil _ _ _⟩
  go_enter Try.func7, Try.ntmps7
  go_wp2_with (first
    | (go_at_call 36; refine (ringEncode_w _ _ _ [⟨[110], 1, 1, []⟩] (by simp [memNums]) (Kd.one_flat Kd.mem w 31 (by simp) hk trivial)).mono ?_; rintro e w' ⟨rfl, hch⟩; rw [hx]))
  exact hK.out _ _ ⟨rfl, ((Ch.refl _ _).alloc _).trans0 hch⟩

/-! ### Below -/
theorem below_nil (b : Bytes) : below [] b = decide (0 < b.length) := by cases b <;> simp [below, Op.bytesLess]
theorem below_nil' (a : Bytes) : below a [] = false := by cases a <;> simp [below, Op.bytesLess]
theorem below_cons (x y : UInt8) (a b : Bytes) : below (x :: a) (y :: b) = if x = y then below a b else decide (x < y) := by
  simp only [below, Op.bytesLess]
  by_cases h : x = y
  · subst h; simp
  · simp [h]

theorem below_end {a b : Bytes} {k : Nat} (ha : k ≤ a.length) (hb : k ≤ b.length) (h : ¬ (k < a.length ∧ k < b.length)) : below (a.drop k) (b.drop k) = decide (a.length < b.length) := by
  by_cases h1 : k < a.length
  · rw [List.drop_of_length_le (l := b) (by omega), below_nil']
    exact (decide_eq_false (by omega)).symm
  · rw [List.drop_of_length_le (l := a) (by omega), below_nil, List.length_drop]
    exact decide_eq_decide.2 (by omega)
set_option maxHeartbeats 1600000 in
theorem refBelow_w (w : World) (a b : Bytes) (ha : a.length ≤ 140737488351232) (hb : b.length ≤ 140737488351232) :
    Calls Try.prog 37 #[vStr a, vStr b] w fun r w' => r = .returned (.bool (below a b)) ∧ Drawn w w' := by
  refine calls_hide fun K hK => ?_
  go_enter Try.func37, Try.ntmps37
  go_wp2
  go_loopw [5] (fun i wr => ∃ k : Nat, i = vInt k ∧ k ≤ a.length ∧ k ≤ b.length ∧ Hid (below a b = below (a.drop k) (b.drop k)) ∧ Drawn w wr) (fun i _ => a.length - (intOf i).toNat)
  case atStart => exact ⟨0, rfl, by omega, by omega, hide rfl, Drawn.refl w⟩
  case round =>
    obtain ⟨k, rfl, hka, hkb, hp, n, rfl⟩ := hrel
    by_cases hl : k < a.length ∧ k < b.length
    · obtain ⟨h1, h2⟩ := hl
      have hp' := hide (hp.out.trans (by rw [List.drop_eq_getElem_cons h1, List.drop_eq_getElem_cons h2, below_cons]))
      clear hp
      obtain ⟨x, hx⟩ : ∃ x, a[k] = x := ⟨_, rfl⟩
      obtain ⟨y, hy⟩ : ∃ y, b[k] = y := ⟨_, rfl⟩
      rw [hx, hy] at hp'
      by_cases he : x = y
      · subst he
        rw [if_pos rfl] at hp'
        go_wp2
        go_quiet (fail)
        go_wp2
        go_roundw
        case rel => exact ⟨k + 1, by go_num, by omega, by omega, hp', (by repeat (first | exact Drawn.refl _ | exact Drawn.of _ _ | refine Drawn.drewN ?_ _))⟩
        case measure => simp [intOf]; omega
      · rw [if_neg he] at hp'
        have q : ((x.toNat : Int) != y.toNat) = true := by
          simp only [bne_iff_ne, ne_eq]
          intro h
          exact he (UInt8.toNat_inj.1 (by omega))
        go_wp2
        go_quiet (fail)
        go_wp2
        go_quiet (fail)
        go_wp2
        refine hK.out _ _ ⟨?_, (by repeat (first | exact Drawn.refl _ | exact Drawn.of _ _ | refine Drawn.drewN ?_ _))⟩
        rw [hp'.out]
        simp [UInt8.lt_iff_toNat_lt]
    · have hend := below_end hka hkb hl
      go_wp2
      all_goals exact hK.out _ _ ⟨by rw [hp.out, hend]; simp, (by repeat (first | exact Drawn.refl _ | exact Drawn.of _ _ | refine Drawn.drewN ?_ _))⟩

/-! ### Texts -/
theorem take_eq_succ {α : Type} {a b : List α} {k : Nat} (ha : k < a.length) (hb : k < b.length) : (a.take (k + 1) = b.take (k + 1)) ↔ (a.take k = b.take k ∧ a[k] = b[k]) := by
  rw [List.take_succ_eq_append_getElem ha, List.take_succ_eq_append_getElem hb]
  constructor
  · intro h
    have := List.append_inj' h rfl
    exact ⟨this.1, by simpa using this.2⟩
  · rintro ⟨h1, h2⟩
    rw [h1, h2]
set_option maxHeartbeats 1600000 in
theorem texts_w (w : World) (ok ok' : Nat → Prop) (va vb : Value) (a b : List Bytes) (ha : Kd.str.At w ok va a) (hb : Kd.str.At w ok' vb b) :
    Calls Try.prog 11 #[va, vb] w fun r w' => r = .returned (.bool (decide (a = b))) ∧ Drawn w w' := by
  refine calls_hide fun K hK => ?_
  obtain ⟨A, c, rfl, hc, hm, ha⟩ := ha
  obtain ⟨B, d, rfl, hd, hm2, hb⟩ := hb
  unfold maxLen at hm hm2
  by_cases hl : a.length = b.length
  · have q0 : ((a.length : Int) != (b.length : Int)) = false := by simp [hl]
    go_enter Try.func11, Try.ntmps11
    go_wp2
    go_loopw [5] (fun i wr => ∃ k : Nat, i = vInt k ∧ k ≤ a.length ∧ Hid (a.take k = b.take k) ∧ Drawn w wr) (fun i _ => a.length - (intOf i).toNat)
    case atStart => exact ⟨0, rfl, by omega, hide rfl, Drawn.refl w⟩
    case round =>
      obtain ⟨k, rfl, hk, hp, n, rfl⟩ := hrel
      by_cases hlt : k < a.length
      · have hlt2 : k < b.length := by omega
        obtain ⟨g, o, rfl, _, _⟩ := ha.addr (by omega)
        obtain ⟨g2, o2, rfl, _, _⟩ := hb.addr (by omega)
        have c0 := Kd.str_cell ha hlt
        have c1 := Kd.str_cell hb hlt2
        have hs := hide (take_eq_succ hlt hlt2)
        have q1 : (k : Int) < (b.length : Int) := by omega
        by_cases he : a[k] = b[k]
        · have q : (a[k] == b[k]) = true := by simp [he]
          have He := hide he
          clear he
          go_wp2
          go_quiet (fail)
          go_wp2
          go_roundw
          case rel => exact ⟨k + 1, by go_num, by omega, hide (hs.out.2 ⟨hp.out, He.out⟩), (by repeat (first | exact Drawn.refl _ | exact Drawn.of _ _ | refine Drawn.drewN ?_ _))⟩
          case measure => simp [intOf]; omega
        · have q : (a[k] == b[k]) = false := by simp [he]
          go_wp2
          go_quiet (fail)
          go_wp2
          refine hK.out _ _ ⟨?_, (by repeat (first | exact Drawn.refl _ | exact Drawn.of _ _ | refine Drawn.drewN ?_ _))⟩
          have : ¬ a = b := fun h => he (by subst h; rfl)
          simp [this]
      · go_wp2
        refine hK.out _ _ ⟨?_, (by repeat (first | exact Drawn.refl _ | exact Drawn.of _ _ | refine Drawn.drewN ?_ _))⟩
        have h1 := hp.out
        rw [List.take_of_length_le (by omega), List.take_of_length_le (by omega)] at h1
        simp [h1]
  · have q0 : ((a.length : Int) != (b.length : Int)) = true := by simp; omega
    go_enter Try.func11, Try.ntmps11
    go_wp2
    refine hK.out _ _ ⟨?_, Drawn.refl _⟩
    have : ¬ a = b := fun h => hl (by rw [h])
    simp [this]

/-! ### Great -/
def greatErr (_ : Option Member) (x : Member) : Int := if (100 : Int) < x.name.length then 1 else if (30 : Int) < x.tokens.length then 1 else 0
def great (l : List Member) : Bool := decide (40 < l.length) || decide (firstErr greatErr none l ≠ 0)
set_option maxHeartbeats 1600000 in
theorem great22_w (w : World) (ok : Nat → Prop) (v : Value) (xs : List Member) (h : Kd.mem.At w ok v xs) :
    Calls Try.prog 8 #[v] w fun r w' => r = .returned (.bool (great xs)) ∧ w = w' := by
  refine calls_hide fun K hK => ?_
  obtain ⟨A, c, rfl, hc, hm, h⟩ := h
  unfold maxLen at hm
  by_cases hl : 40 < xs.length
  · have q : (40 : Int) < (xs.length : Int) := by omega
    go_enter Try.func8, Try.ntmps8
    go_wp2
    exact hK.out _ _ ⟨by simp [great, hl], rfl⟩
  · have q : ¬ (40 : Int) < (xs.length : Int) := by omega
    go_enter Try.func8, Try.ntmps8
    go_wp2
    go_loopw [3] (fun i wr => ∃ k : Nat, i = vInt k ∧ k ≤ xs.length ∧ Pending greatErr xs k ∧ wr = w) (fun i _ => xs.length - (intOf i).toNat)
    case atStart => exact ⟨0, rfl, by omega, Pending.start, rfl⟩
    case round =>
      obtain ⟨k, rfl, hk, hp, rfl⟩ := hrel
      by_cases hlt : k < xs.length
      · obtain ⟨b, o, rfl, _, hbb⟩ := h.addr (by omega)
        obtain ⟨T, m, c0, c1, c2, c3, ht⟩ := Kd.mem_cells h hlt
        by_cases h1 : (100 : Int) < (xs[k].name.length : Int)
        · go_wp2
          refine hK.out _ _ ⟨?_, rfl⟩
          have := hp.at_ hlt (by simp [greatErr, h1])
          simp [great, this, greatErr, h1]
        · by_cases h2 : (30 : Int) < (xs[k].tokens.length : Int)
          · go_wp2
            refine hK.out _ _ ⟨?_, rfl⟩
            have := hp.at_ hlt (by simp [greatErr, h2])
            simp [great, this, greatErr, h2]
          · go_wp2
            go_roundw
            case rel => exact ⟨k + 1, by go_num, by omega, hp.next hlt (by simp [greatErr, h1, h2]), trivial⟩
            case measure => simp [intOf]; omega
      · go_wp2
        exact hK.out _ _ ⟨by simp [great, hl, hp.ends (by omega)], rfl⟩

/-! ### Find -/
def noMem : Member := ⟨[], 0, 0, []⟩
def findMem (l : List Member) (name : Bytes) : Option Member := l.find? fun x => x.name == name
theorem find_drop (l : List Member) (name : Bytes) (k : Nat) (hk : k < l.length) : (l.drop k).find? (fun x => x.name == name) = if l[k].name = name then some l[k] else (l.drop (k + 1)).find? (fun x => x.name == name) := by
  rw [List.drop_eq_getElem_cons hk, List.find?_cons]
  by_cases h : l[k].name = name
  · have e : (l[k].name == name) = true := by simp [h]
    rw [if_pos h, e]
  · have e : (l[k].name == name) = false := by simp [h]
    rw [if_neg h, e]
set_option maxHeartbeats 1600000 in
theorem find22_w (w : World) (ok : Nat → Prop) (v : Value) (xs : List Member) (name : Bytes) (h : Kd.mem.At w ok v xs) :
    Calls Try.prog 12 #[v, vStr name] w fun r w' => ∃ t x, x = (findMem xs name).getD noMem ∧ r = .returned (.tuple #[vMem x t, .bool (findMem xs name).isSome]) ∧ Kd.u64.At w' ok t x.tokens ∧ Ch [] w w' := by
  refine calls_hide fun K hK => ?_
  have h := h.bound
  obtain ⟨A, c, rfl, hc, hm, h⟩ := h
  unfold maxLen at hm
  go_enter Try.func12, Try.ntmps12
  go_wp2
  go_loopw [6] (fun i wr => ∃ k : Nat, i = vInt k ∧ k ≤ xs.length ∧ Hid (findMem xs name = (xs.drop k).find? (fun x => x.name == name)) ∧ wr = w.alloc (.cells #[vStr [], vU64 0, vByte 0, .slice none 0 0] 31)) (fun i _ => xs.length - (intOf i).toNat)
  case atStart => exact ⟨0, rfl, by omega, hide rfl, rfl⟩
  case round =>
    obtain ⟨k, rfl, hk, hp, rfl⟩ := hrel
    have hA := (Ch.refl [] w).alloc (.cells #[vStr [], vU64 0, vByte 0, .slice none 0 0] 31)
    have hB := Blk.new w 31 [vStr [], vU64 0, vByte 0, .slice none 0 0]
    by_cases hlt : k < xs.length
    · obtain ⟨b, o, rfl, _, hbb⟩ := h.addr (by omega)
      obtain ⟨T, m, c0, c1, c2, c3, ht⟩ := Kd.mem_cells (h.ch0 hA) hlt
      have hd := hide (find_drop xs name k hlt)
      by_cases he : xs[k].name = name
      · have q : (xs[k].name == name) = true := by simp [he]
        have He := hide he
        clear he
        obtain ⟨x, hx⟩ : ∃ x, xs[k] = x := ⟨_, rfl⟩
        rw [hx] at c0 c1 c2 c3 ht hd q He
        have b0 := hB.cell 0
        have b1 := hB.cell 1
        have b2 := hB.cell 2
        have b3 := hB.cell 3
        have f0 := hB.frozen 0
        have f1 := hB.frozen 1
        have f2 := hB.frozen 2
        have f3 := hB.frozen 3
        go_wp2
        go_returns
        have hf : findMem xs name = some x := by rw [hp.out, hd.out, if_pos He.out]
        refine hK.out _ _ ⟨.slice T x.tokens.length m, x, by rw [hf]; rfl, by rw [hf]; rfl, ?_, ?_⟩
        · exact (ht.move (w' := w.alloc _) (fun k h1 h2 => (Below.heap_alloc _ _ _ h1.2).trans (Below.heap_alloc _ _ _ h1.2).symm) (by simp)).mono (fun _ h => h.1)
        · exact (Ch.refl _ _).alloc _
      · have q : (xs[k].name == name) = false := by simp [he]
        go_wp2
        go_roundw
        case rel => exact ⟨k + 1, by go_num, by omega, hide (by rw [hp.out, hd.out, if_neg he]), trivial⟩
        case measure => simp [intOf]; omega
    · have b0 := hB.cell 0
      have b1 := hB.cell 1
      have b2 := hB.cell 2
      have b3 := hB.cell 3
      have f0 := hB.frozen 0
      have f1 := hB.frozen 1
      have f2 := hB.frozen 2
      have f3 := hB.frozen 3
      go_wp2
      go_returns
      have hf : findMem xs name = none := by rw [hp.out, List.drop_of_length_le (by omega)]; rfl
      refine hK.out _ _ ⟨.slice none 0 0, noMem, by rw [hf]; rfl, by rw [hf]; rfl, Kd.At.nil _ _ _, ?_⟩
      exact (Ch.refl _ _).alloc _
end Go.Proofs.Ytmojbpgabpbacaa
