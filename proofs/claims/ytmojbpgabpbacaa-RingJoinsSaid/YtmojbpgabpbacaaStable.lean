/- The stable sort, whole. -/
import Derived.Test.YtmojbpgabpbacaaInsert
namespace Go.Proofs.Ytmojbpgabpbacaa
open Go.RowKit

/-- Blocks of s, the last one maybe shorter. -/
def Even (s : Nat) : List (List Tg) → Prop
  | [] => True
  | [c] => 0 < c.length ∧ c.length ≤ s
  | c :: d :: r => c.length = s ∧ Even s (d :: r)
theorem Even.snoc {s : Nat} : ∀ (dn td : List (List Tg)), (∀ c ∈ dn, c.length = s) → 0 < s → (td = [] ∨ ∃ Z, td = [Z] ∧ 0 < Z.length ∧ Z.length ≤ s) → Even s (dn ++ td) := by
  intro dn
  induction dn with
  | nil =>
    rintro td _ h0 (rfl | ⟨Z, rfl, h1, h2⟩)
    · trivial
    · exact ⟨h1, h2⟩
  | cons c r ih =>
    intro td hc h0 ht
    have h1 := hc c (by simp)
    have h2 := ih td (fun d hd => hc d (by simp [hd])) h0 ht
    rcases hr : r ++ td with _ | ⟨d, r'⟩
    · rw [List.cons_append, hr]
      exact ⟨by omega, by omega⟩
    · rw [List.cons_append, hr]
      rw [hr] at h2
      exact ⟨h1, h2⟩
structure Done (s : Nat) (dn : List (List Tg)) : Prop where
  len : ∀ c ∈ dn, c.length = s
  srt : ∀ c ∈ dn, Srt c
  apart : dn.Pairwise Apart
theorem Done.nil (s : Nat) : Done s [] := ⟨by simp, by simp, List.Pairwise.nil⟩
theorem Apart.perm {X Y Z : List Tg} (h : Apart X Y) (p : Z.Perm X) : Apart Z Y := fun x hx y hy => h x (p.mem_iff.1 hx) y hy
theorem Apart.perm_r {X Y Z : List Tg} (h : Apart X Y) (p : Z.Perm Y) : Apart X Z := fun x hx y hy => h x hx y (p.mem_iff.1 hy)
theorem Done.snoc {s : Nat} {dn : List (List Tg)} {Z : List Tg} (h : Done s dn) (hl : Z.length = s) (hs : Srt Z) (ha : ∀ c ∈ dn, Apart c Z) : Done s (dn ++ [Z]) :=
  ⟨fun c hc => by rcases List.mem_append.1 hc with hc | hc; exact h.len c hc; rw [List.mem_singleton.1 hc]; exact hl,
   fun c hc => by rcases List.mem_append.1 hc with hc | hc; exact h.srt c hc; rw [List.mem_singleton.1 hc]; exact hs,
   List.pairwise_append.2 ⟨h.apart, List.pairwise_singleton _ _, fun c hc z hz => by rw [List.mem_singleton.1 hz]; exact ha c hc⟩⟩
theorem Even.two {s : Nat} (h0 : 0 < s) : ∀ (td : List (List Tg)), Even s td → 2 * s ≤ td.flatten.length → ∃ X Y r, td = X :: Y :: r ∧ X.length = s ∧ Y.length = s ∧ Even s r := by
  intro td h hl
  match td, h with
  | [], _ => simp at hl; omega
  | [c], h => simp at hl; have := h.2; omega
  | [c, d], h =>
    have h1 := h.1
    have h2 := h.2.2
    simp at hl
    exact ⟨c, d, [], rfl, h1, by omega, trivial⟩
  | c :: d :: e :: r, h => exact ⟨c, d, e :: r, rfl, h.1, h.2.1, h.2.2⟩
theorem Even.first {s : Nat} (h0 : 0 < s) {c : List Tg} {r : List (List Tg)} (h : Even s (c :: r)) : 0 < c.length ∧ c.length ≤ s := by
  match r, h with
  | [], h => exact h
  | d :: r, h => exact ⟨by rw [h.1]; exact h0, Nat.le_of_eq h.1⟩
theorem Even.short {s : Nat} (h0 : 0 < s) : ∀ (td : List (List Tg)), Even s td → td.flatten.length < 2 * s → td = [] ∨ (∃ X, td = [X] ∧ 0 < X.length ∧ X.length ≤ s) ∨ (∃ X Y, td = [X, Y] ∧ X.length = s ∧ 0 < Y.length) := by
  intro td h hl
  match td, h with
  | [], _ => exact .inl rfl
  | [c], h => exact .inr (.inl ⟨c, rfl, h.1, h.2⟩)
  | [c, d], h => exact .inr (.inr ⟨c, d, rfl, h.1, h.2.1⟩)
  | c :: d :: e :: r, h =>
    have h1 := h.1
    have h2 := h.2.1
    have h3 := (Even.first h0 h.2.2).1
    simp at hl
    omega
theorem Even.one {s : Nat} (h0 : 0 < s) (td : List (List Tg)) (h : Even s td) (hl : td.flatten.length ≤ s) : td = [] ∨ ∃ X, td = [X] := by
  match td, h with
  | [], _ => exact .inl rfl
  | [c], h => exact .inr ⟨c, rfl⟩
  | c :: d :: r, h =>
    have h1 := h.1
    have h3 := (Even.first h0 h.2).1
    simp at hl
    omega
theorem rising_apart {X Y : List Tg} (h : Rising (X ++ Y)) : Apart X Y := fun x hx y hy => (List.pairwise_append.1 h).2.2 x hx y hy

set_option maxRecDepth 100000 in
set_option maxHeartbeats 6400000 in
theorem stable_w (w : World) (blk : Nat) (sp : List Value) (cp : Nat) (g : List Tg) (n : Nat) (hn : g.length = n) (hbig : n ≤ 1000000) (hg : Rising g) (h : PRow w blk sp (pl g)) :
    Calls Try.prog 81 #[.slice (some ⟨blk, 0, none⟩) n cp, vInt n, vCmp] w fun r w' => r = .returned vUnit ∧ ∃ Z : List Tg, Z.Perm g ∧ Srt Z ∧ PRow w' blk sp (pl Z) ∧ Ch [blk] w w' := by
  refine calls_hide fun K hK => ?_
  go_enter Try.func81, Try.ntmps81
  go_wp2
  go_loopw [7, 8] (fun av bv wr => ∃ (dn : List (List Tg)) (R : List Tg) (a : Nat), av = vInt a ∧ bv = vInt (a + 20) ∧ dn.flatten.length = a ∧ a + R.length = n ∧ Hid (Done 20 dn) ∧ Hid (∀ c ∈ dn, Apart c R) ∧ Hid (Rising R) ∧ Hid ((dn.flatten ++ R).Perm g) ∧ PRow wr blk sp (pl (dn.flatten ++ R)) ∧ Ch [blk] w wr) (fun a _ _ => n - (intOf a).toNat)
  case atStart => exact ⟨[], g, 0, rfl, rfl, rfl, by omega, hide (Done.nil _), hide (by simp), hide hg, hide (List.Perm.refl _), h, Ch.refl _ _⟩
  case round =>
    obtain ⟨dn, R, a, rfl, rfl, hda, haR, hdn, hap, hri, hpm, hp, hch⟩ := hrel
    have q1 : IntKind.i64.wrap ((a + 20 : Nat) + 20 : Int) = ((a + 20 + 20 : Nat) : Int) := by rw [IntWalk.i64_in _ (by omega)]; omega
    by_cases hlt : a + 20 ≤ n
    · have l1 : ((a + 20 : Nat) : Int) ≤ n := by omega
      obtain ⟨X, B, rfl, hX⟩ : ∃ X B, R = X ++ B ∧ X.length = 20 := ⟨R.take 20, R.drop 20, (List.take_append_drop _ _).symm, by rw [List.length_take]; omega⟩
      rw [List.length_append] at haR
      go_wp2_with (go_at_call 131; refine (insertion_w _ blk sp cp dn.flatten X B a (a + 20) n hda (by omega) (by omega) hbig (List.pairwise_append.1 hri.out).1 hp).mono ?_; rintro e w' ⟨rfl, Z, z1, z2, z3, z4⟩)
      go_roundw
      case rel =>
        have hzl : Z.length = 20 := z1.length_eq.trans hX
        refine ⟨dn ++ [Z], B, a + 20, rfl, by go_num, by simp [hda, hzl], by omega, hide (hdn.out.snoc hzl z2 fun c hc => Apart.perm_r (fun x hx y hy => hap.out c hc x hx y (by simp [hy])) z1), hide ?_, hide (List.pairwise_append.1 hri.out).2.1, hide ?_, by simpa using z3, hch.trans' z4⟩
        · intro c hc
          rcases List.mem_append.1 hc with hc | hc
          · exact fun x hx y hy => hap.out c hc x hx y (by simp [hy])
          · rw [List.mem_singleton.1 hc]
            exact (rising_apart hri.out).perm z1
        · refine List.Perm.trans ?_ hpm.out
          simp only [List.flatten_append, List.flatten_singleton, List.append_assoc]
          exact (z1.append_right B).append_left _
      case measure => simp only [intOf]; omega
    · have l1 : ¬ ((a + 20 : Nat) : Int) ≤ n := by omega
      go_wp2_with (go_at_call 131; refine (insertion_w _ blk sp cp dn.flatten R [] a n n hda haR (by simp) hbig hri.out (by simpa using hp)).mono ?_; rintro e w' ⟨rfl, Z, z1, z2, z3, z4⟩)
      have hzl := z1.length_eq
      have hch1 := hch.trans' z4
      obtain ⟨cs, c1, c2, c3, c4, c5⟩ : ∃ cs : List (List Tg), Hid (Even 20 cs) ∧ Hid (∀ c ∈ cs, Srt c) ∧ Hid (cs.Pairwise Apart) ∧ Hid (cs.flatten.Perm g) ∧ PRow w' blk sp (pl cs.flatten) := by
        rw [List.append_nil] at z3
        by_cases hR : R.length = 0
        · obtain rfl : R = [] := List.eq_nil_of_length_eq_zero hR
          obtain rfl : Z = [] := List.eq_nil_of_length_eq_zero (by omega)
          refine ⟨dn, hide ?_, hide hdn.out.srt, hide hdn.out.apart, hide (by simpa using hpm.out), by simpa using z3⟩
          have := Even.snoc dn [] hdn.out.len (by decide) (.inl rfl)
          simpa using this
        · refine ⟨dn ++ [Z], hide (Even.snoc dn [Z] hdn.out.len (by decide) (.inr ⟨Z, rfl, by omega, by omega⟩)), hide ?_, hide ?_, hide ?_, by simpa using z3⟩
          · intro c hc
            rcases List.mem_append.1 hc with hc | hc
            · exact hdn.out.srt c hc
            · rw [List.mem_singleton.1 hc]; exact z2
          · exact List.pairwise_append.2 ⟨hdn.out.apart, List.pairwise_singleton _ _, fun c hc z hz => by rw [List.mem_singleton.1 hz]; exact (hap.out c hc).perm_r z1⟩
          · refine List.Perm.trans ?_ hpm.out
            simp only [List.flatten_append, List.flatten_singleton]
            exact z1.append_left _
      clear hdn hap hri hpm hp z3 hda haR hch z4
      go_loopw [6] (fun sv wr => ∃ (s : Nat) (cs : List (List Tg)), sv = vInt s ∧ 20 ≤ s ∧ s ≤ 2000000 ∧ Hid (Even s cs) ∧ Hid (∀ c ∈ cs, Srt c) ∧ Hid (cs.Pairwise Apart) ∧ Hid (cs.flatten.Perm g) ∧ PRow wr blk sp (pl cs.flatten) ∧ Ch [blk] w wr) (fun s _ => n - (intOf s).toNat)
      case atStart => exact ⟨20, cs, rfl, by omega, by omega, c1, c2, c3, c4, c5, hch1⟩
      case round =>
        clear c1 c2 c3 c4 c5 hch1
        obtain ⟨s, cs, rfl, hs1, hs2, c1, c2, c3, c4, c5, hch⟩ := hrel
        by_cases hlt : s < n
        · have l2 : (s : Int) < n := by omega
          have q2 : IntKind.i64.wrap (2 * (s : Int)) = ((0 + 2 * s : Nat) : Int) := by rw [IntWalk.i64_in _ (by omega)]; omega
          go_wp2
          clear q2
          have h2s : s < 1000000 := by omega
          go_loopw [7, 8] (fun av bv wq => ∃ (dn td : List (List Tg)) (a : Nat), av = vInt a ∧ bv = vInt (a + 2 * s) ∧ dn.flatten.length = a ∧ a + td.flatten.length = n ∧ Hid (Done (2 * s) dn) ∧ Hid (Even s td) ∧ Hid (∀ c ∈ td, Srt c) ∧ Hid (td.Pairwise Apart) ∧ Hid (∀ c ∈ dn, ∀ d ∈ td, Apart c d) ∧ Hid ((dn.flatten ++ td.flatten).Perm g) ∧ PRow wq blk sp (pl (dn.flatten ++ td.flatten)) ∧ Ch [blk] w wq) (fun a _ _ => n - (intOf a).toNat)
          case atStart => exact ⟨[], cs, 0, rfl, by rw [Nat.zero_add]; go_num, rfl, by rw [Nat.zero_add, c4.out.length_eq]; exact hn, hide (Done.nil _), c1, c2, c3, hide (by simp), c4, c5, hch⟩
          case round =>
            clear c1 c2 c3 c4 c5 hch
            obtain ⟨dn, td, a, rfl, rfl, hda, hdt, hdn, c1, c2, c3, hx, c4, c5, hch⟩ := hrel
            have q1 : IntKind.i64.wrap ((a : Int) + s) = ((a + s : Nat) : Int) := by rw [IntWalk.i64_in _ (by omega)]; omega
            have q2 : IntKind.i64.wrap (2 * (s : Int)) = ((2 * s : Nat) : Int) := by rw [IntWalk.i64_in _ (by omega)]; omega
            by_cases hle : a + 2 * s ≤ n
            · have l3 : ((a + 2 * s : Nat) : Int) ≤ n := by omega
              have q3 : IntKind.i64.wrap (((a + 2 * s : Nat) : Int) + (2 * s : Nat)) = ((a + 2 * s + 2 * s : Nat) : Int) := by rw [IntWalk.i64_in _ (by omega)]; omega
              obtain ⟨X, Y, r, rfl, hX, hY, he⟩ := Even.two (by omega) td c1.out (by omega)
              have hfl : (X :: Y :: r).flatten = X ++ (Y ++ r.flatten) := rfl
              rw [hfl] at c5 c4 hdt
              simp only [List.length_append] at hdt
              have hap := c3.out
              rw [List.pairwise_cons, List.pairwise_cons] at hap
              go_wp2_with (go_at_call 132; refine (symMerge_w _ _ blk sp cp dn.flatten X Y r.flatten a (a + s) (a + 2 * s) n (Nat.le_refl _) hda (by omega) (by omega) (by omega) hbig (by omega) (by omega) (c2.out X (by simp)) (c2.out Y (by simp)) (hap.1 Y (by simp)) c5).mono ?_; rintro e w' ⟨rfl, Z, z1, z2, z3, z4⟩)
              go_roundw
              case rel =>
                have hzl : Z.length = 2 * s := by rw [z1.length_eq, List.length_append]; omega
                have hzm : ∀ z ∈ Z, z ∈ X ∨ z ∈ Y := fun z hz => List.mem_append.1 (z1.mem_iff.1 hz)
                refine ⟨dn ++ [Z], r, a + 2 * s, rfl, by go_num, by simp [hda, hzl], by omega, hide (hdn.out.snoc hzl z2 fun c hc x hxc y hy => ?_), hide he, hide fun c hc => c2.out c (by simp [hc]), hide hap.2.2, hide fun c hc d hd => ?_, hide ?_, by simpa using z3, hch.trans' z4⟩
                · rcases hzm y hy with hy | hy
                  · exact hx.out c hc X (by simp) x hxc y hy
                  · exact hx.out c hc Y (by simp) x hxc y hy
                · rcases List.mem_append.1 hc with hc | hc
                  · exact hx.out c hc d (by simp [hd])
                  · rw [List.mem_singleton.1 hc]
                    intro x hxz y hy
                    rcases hzm x hxz with hxz | hxz
                    · exact hap.1 d (by simp [hd]) x hxz y hy
                    · exact hap.2.1 d hd x hxz y hy
                · refine List.Perm.trans ?_ c4.out
                  simp only [List.flatten_append, List.flatten_singleton, List.append_assoc]
                  refine List.Perm.append_left _ ?_
                  rw [← List.append_assoc]
                  exact z1.append_right _
              case measure => simp only [intOf]; omega
            · have l3 : ¬ ((a + 2 * s : Nat) : Int) ≤ n := by omega
              -- what goes on into the next round
              have fin : ∀ (td' : List (List Tg)) (wz : World), (td' = [] ∨ ∃ Z, td' = [Z] ∧ 0 < Z.length ∧ Z.length ≤ 2 * s) → (∀ c ∈ td', Srt c) → (td'.flatten.Perm td.flatten) → PRow wz blk sp (pl (dn.flatten ++ td'.flatten)) → Ch [blk] w wz →
                  ∃ cs' : List (List Tg), Hid (Even (2 * s) cs') ∧ Hid (∀ c ∈ cs', Srt c) ∧ Hid (cs'.Pairwise Apart) ∧ Hid (cs'.flatten.Perm g) ∧ PRow wz blk sp (pl cs'.flatten) ∧ Ch [blk] w wz := fun td' wz h1 h2 h3 h4 h5 => by
                refine ⟨dn ++ td', hide (Even.snoc dn td' hdn.out.len (by omega) h1), hide fun c hc => ?_, hide (List.pairwise_append.2 ⟨hdn.out.apart, ?_, fun c hc d hd x hxc y hy => ?_⟩), hide ?_, by simpa using h4, h5⟩
                · rcases List.mem_append.1 hc with hc | hc
                  · exact hdn.out.srt c hc
                  · exact h2 c hc
                · rcases h1 with rfl | ⟨Z, rfl, _⟩
                  · exact List.Pairwise.nil
                  · exact List.pairwise_singleton _ _
                · have : y ∈ td.flatten := h3.mem_iff.1 (List.mem_flatten.2 ⟨d, hd, hy⟩)
                  obtain ⟨e, he, hye⟩ := List.mem_flatten.1 this
                  exact hx.out c hc e he x hxc y hye
                · rw [List.flatten_append]
                  exact (h3.append_left _).trans c4.out
              have FIN := hide fin
              clear fin
              rcases Even.short (by omega) td c1.out (by omega) with rfl | ⟨X, rfl, hX0, hXs⟩ | ⟨X, Y, rfl, hX, hY0⟩
              · obtain ⟨cs', r1, r2, r3, r4, r5, r6⟩ := FIN.out [] _ (.inl rfl) (by simp) (List.Perm.refl _) c5 hch
                have l4 : ¬ ((a + s : Nat) : Int) < n := by simp at hdt; omega
                have q4 : IntKind.i64.wrap ((s : Int) * 2) = ((2 * s : Nat) : Int) := by rw [IntWalk.i64_in _ (by omega)]; omega
                go_wp2
                go_roundw
                case rel => exact ⟨2 * s, cs', by go_num, by omega, by omega, r1, r2, r3, r4, r5, r6⟩
                case measure => simp only [intOf]; omega
              · obtain ⟨cs', r1, r2, r3, r4, r5, r6⟩ := FIN.out [X] _ (.inr ⟨X, rfl, hX0, by omega⟩) c2.out (List.Perm.refl _) c5 hch
                have l4 : ¬ ((a + s : Nat) : Int) < n := by simp at hdt; omega
                have q4 : IntKind.i64.wrap ((s : Int) * 2) = ((2 * s : Nat) : Int) := by rw [IntWalk.i64_in _ (by omega)]; omega
                go_wp2
                go_roundw
                case rel => exact ⟨2 * s, cs', by go_num, by omega, by omega, r1, r2, r3, r4, r5, r6⟩
                case measure => simp only [intOf]; omega
              · have hfl : [X, Y].flatten = X ++ (Y ++ []) := by simp
                have hap := c3.out
                rw [List.pairwise_cons] at hap
                have c5' := c5
                rw [hfl] at c5' hdt
                simp only [List.length_append, List.length_nil] at hdt
                have l4 : ((a + s : Nat) : Int) < n := by omega
                have q4 : IntKind.i64.wrap ((s : Int) * 2) = ((2 * s : Nat) : Int) := by rw [IntWalk.i64_in _ (by omega)]; omega
                go_wp2_with (go_at_call 132; refine (symMerge_w _ _ blk sp cp dn.flatten X Y [] a (a + s) n n (Nat.le_refl _) hda (by omega) (by omega) (by simp) hbig (by omega) hY0 (c2.out X (by simp)) (c2.out Y (by simp)) (hap.1 Y (by simp)) c5').mono ?_; rintro e w' ⟨rfl, Z, z1, z2, z3, z4⟩)
                obtain ⟨cs', r1, r2, r3, r4, r5, r6⟩ := FIN.out [Z] _ (.inr ⟨Z, rfl, by rw [z1.length_eq, List.length_append]; omega, by rw [z1.length_eq, List.length_append]; omega⟩) (by simpa using z2) (by simpa using z1) (by simpa using z3) (hch.trans' z4)
                go_roundw
                case rel => exact ⟨2 * s, cs', by go_num, by omega, by omega, r1, r2, r3, r4, r5, r6⟩
                case measure => simp only [intOf]; omega
        · have l2 : ¬ (s : Int) < n := by omega
          go_wp2
          go_end0
          refine hK.out _ _ ⟨rfl, cs.flatten, c4.out, ?_, c5, hch⟩
          rcases Even.one (by omega) cs c1.out (by rw [c4.out.length_eq]; omega) with rfl | ⟨X, rfl⟩
          · exact List.Pairwise.nil
          · simpa using c2.out X (by simp)
end Go.Proofs.Ytmojbpgabpbacaa
