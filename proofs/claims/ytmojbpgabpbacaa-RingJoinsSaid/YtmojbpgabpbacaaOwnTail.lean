/- ring.Owners from the sort on: the names that are taken in turn. -/
import Derived.Test.YtmojbpgabpbacaaPick
namespace Go.Proofs.Ytmojbpgabpbacaa
open Go.RowKit Go.Shelf
attribute [local go_sem] Oper.semAt_some

def codeTail' : Code → Nat → Code
  | .seq _ r, n + 1 => codeTail' r n
  | c, _ => c

/-- What is held between two rounds: the box holds the names that were taken; what else lay lies so. -/
def Picked (n : Int) (ob n₀ : Nat) (W0 : World) (pre : List Place) (W : World) : Prop :=
  ∃ v, Blk W ob 27 [v] ∧ W.ownsRow n₀ 9 1 v (picks n pre).length ((picks n pre).map vStr) ∧ Ch [ob] W0 W
theorem ownsRow_cells {w : World} {base : Nat} {e : TypeId} {size k : Nat} {v : Value} {xs : List Value} (h : w.ownsRow base e size v k xs) : ∀ g, v.ownBlock = some g → ∃ o : _root_.Go.Obj, w.heap[g]? = some o ∧ o.isCells = true := by
  intro b hb
  rcases h.2 with ⟨rfl, h3⟩ | ⟨g, cap, cur, rfl, hg, hh, _⟩
  · simp [Value.ownBlock] at hb
  · obtain rfl : g = b := by simpa [Value.ownBlock] using hb
    exact ⟨_, hh, rfl⟩
theorem row_ne {W : World} {row : Option Nat} {n₀ : Nat} (hr : ∀ r, row = some r → n₀ ≤ r ∧ ∃ o : _root_.Go.Obj, W.heap[r]? = some o ∧ o.isCells = false) (k : Nat) (hk : ∃ o : _root_.Go.Obj, W.heap[k]? = some o ∧ o.isCells = true) : k ∉ row.toList := by
  obtain ⟨o, h1, h2⟩ := hk
  intro e
  obtain ⟨_, o', h3, h4⟩ := hr k (by cases row <;> simp_all)
  rw [h1] at h3
  cases h3
  rw [h2] at h4
  cases h4
theorem row_ch {W W' : World} {row : Option Nat} (hg : W.grownBy W' row) : Ch row.toList W W' := (Ch.refl _ W).grown hg (fun k hk => .inl (by rw [hk]; simp))
theorem blk_own (B : Nat) (t : TypeId) (cs : List Value) (n₀ : Nat) {W W' : World} {row : Option Nat} (hb : Blk W B t cs) (hg : W.grownBy W' row) (hr : ∀ r, row = some r → n₀ ≤ r ∧ ∃ o : _root_.Go.Obj, W.heap[r]? = some o ∧ o.isCells = false) : Blk W' B t cs :=
  hb.ch (row_ch hg) (row_ne hr B ⟨_, hb, rfl⟩)
theorem picked_own (n : Int) (ob n₀ : Nat) (W0 : World) (hn0 : W0.heap.size ≤ n₀) : OwnFrom n₀ (Picked n ob n₀ W0) := by
  rintro pre W W' row ⟨v, hb, ho, hc⟩ hg hr
  exact ⟨v, blk_own ob _ _ n₀ hb hg hr, Kd.ownsRow_move ho (fun k hk => (row_ch hg).block k (ho.lt k hk).2 (row_ne hr k (ownsRow_cells ho k hk))), hc.grown hg (fun k hk => .inr (Nat.le_trans hn0 (hr k hk).1))⟩
theorem str_row {w : World} {base : Nat} {ok : Nat → Prop} {e : TypeId} {v : Value} {xs : List Bytes} (h : w.ownsRow base e 1 v xs.length (xs.map vStr)) : Kd.str.Own e w base ok v xs :=
  ⟨_, h, by simp [Kd.str, Kd.scalar], fun j p hj => by
    have e : Kd.str.sz = 1 := rfl
    obtain ⟨hl, rfl⟩ := List.getElem?_eq_some_iff.1 hj
    rw [e, Nat.mul_one, ← List.map_drop, List.drop_eq_getElem_cons hl]
    rfl⟩

theorem Try.infoStr : (Try.prog.info? 9).map (fun i => (i.zero, i.size, i.bytes)) = some (some (.string ⟨#[]⟩), 1, 16) := by kernel_rfl
theorem picks_bound (n : Int) (ps : List Place) : (picks n ps).length ≤ ps.length := by
  have : ∀ (ps : List Place) (out : List Bytes), (ps.foldl (take1 n) out).length ≤ out.length + ps.length := by
    intro ps
    induction ps with
    | nil => intro out; simp
    | cons x r ih =>
      intro out
      have h1 := ih (take1 n out x)
      have h2 : (take1 n out x).length ≤ out.length + 1 := by
        unfold take1
        split
        · omega
        · split <;> simp
      rw [List.foldl_cons, List.length_cons]
      omega
  simpa [picks] using this ps []
theorem turn_more (xs : List Place) (i k n : Nat) (h : k ≤ n) : ∃ ys, turn xs i n = turn xs i k ++ ys := by
  obtain ⟨m, rfl⟩ : ∃ m, n = k + m := ⟨n - k, by omega⟩
  clear h
  induction m with
  | zero => exact ⟨[], by simp⟩
  | succ m ih =>
    obtain ⟨ys, h⟩ := ih
    exact ⟨_, by rw [← Nat.add_assoc, turn_succ, h, List.append_assoc]⟩

set_option maxRecDepth 100000 in
set_option maxHeartbeats 3200000 in
theorem ownersTail_w (w wr : World) (base bn : Nat) (P : List Place) (Av : Option Addr) (cv : Nat) (key : Nat) (n : Int) (K : Ending → World → Prop) (hbig : P.length ≤ 1000000)
    (hown : Kd.place.Own 87 wr base (fun k => base ≤ k) (.slice Av P.length cv) P) (hBn : Blk wr bn 3 [.int .i64 n]) (hbn : bn < base) (hwb : w.heap.size ≤ base) (hbase : base ≤ wr.heap.size) (hch : Ch [] w wr)
    (hK : Hid (∀ v Z i wz, Sorted P Z → First (pl Z) key i → Kd.str.At wz (fun k => base ≤ k) v (picks n (turn (pl Z) i (pl Z).length)) → Ch [] w wz → K (.returned v) wz))
    (u0 u2 u3 u4 u6 u8 u9 u10 u11 u12 u13 u14 u15 u16 u17 u18 u19 u20 u21 u22 u23 u24 u25 u26 u27 u28 u29 u30 u31 u32 u33 u34 u35 u36 u37 u38 u39 u40 u41 u42 u43 u44 u45 u46 u47 u48 u49 u50 u51 u52 u53 u54 u55 u56 u57 u58 u59 u60 u61 u62 : Value) :
    Code.wp Try.prog (codeTail' (Try.f10.body.getD .skip) 4) (bodyPostM Fence.wide 8 Try.prog Try.f10 K) { tmps := #[u0, vU64 key, u2, u3, u4, vPtr bn, u6, .slice Av P.length cv, u8, u9, u10, u11, u12, u13, u14, u15, u16, u17, u18, u19, u20, u21, u22, u23, u24, u25, u26, u27, u28, u29, u30, u31, u32, u33, u34, u35, u36, u37, u38, u39, u40, u41, u42, u43, u44, u45, u46, u47, u48, u49, u50, u51, u52, u53, u54, u55, u56, u57, u58, u59, u60, u61, u62], defers := [] } wr := by
  conv in codeTail' _ _ => (unfold Try.f10; dsimp only [Option.getD, codeTail'])
  obtain ⟨i0, hi, hz0, hz1, hz2⟩ := info_parts Try.infoStr
  have hbl := hown.block
  have hBl := hBn.lt
  go_wp2_with (first
    | (go_at_call 39; refine (sortStable_w _ _ _ _ P hbig hown).mono ?_; rintro e w2 ⟨rfl, Z, hZ, hatZ, hch2⟩)
    | (go_at_call 42; refine (ringRound_w _ _ _ _ _).mono ?_; rintro e w3 ⟨b1, b2, rfl, hb1, hb12, hk1, hk2, rfl⟩))
  have hs1 := hk1.lt
  have hs2 := hk2.lt
  have hob := (((Blk.new w2 27 [.slice none 0 0]).alloc (.cells #[.slice Av P.length cv] 85)).alloc (.cells #[vU64 key] 23))
  have hW4c : Ch [] w2 (((w2.alloc (.cells #[.slice none 0 0] 27)).alloc (.cells #[.slice Av P.length cv] 85)).alloc (.cells #[vU64 key] 23)) := (((Ch.refl [] w2).alloc _).alloc _).alloc _
  have hW4s : (((w2.alloc (.cells #[.slice none 0 0] 27)).alloc (.cells #[.slice Av P.length cv] 85)).alloc (.cells #[vU64 key] 23)).heap.size = w2.heap.size + 3 := by simp
  rw [World.size_alloc] at hb1
  obtain ⟨W4, hW4⟩ : ∃ x, ((w2.alloc (.cells #[.slice none 0 0] 27)).alloc (.cells #[.slice Av P.length cv] 85)).alloc (.cells #[vU64 key] 23) = x := ⟨_, rfl⟩
  rw [hW4] at hk1 hk2 hs1 hs2 hob hW4c hW4s ⊢
  clear hW4
  obtain ⟨ob, hobe⟩ : ∃ ob, w2.heap.size = ob := ⟨_, rfl⟩
  have hsz2 := hch2.size
  have hlZ : (pl Z).length = P.length := by rw [pl_len, hZ.1.length_eq, List.length_zipIdx]
  have hatW : Kd.place.At W4 (fun k => k < W4.heap.size ∧ k ≠ w2.heap.size) (.slice Av P.length cv) (pl Z) := (hatZ.bound.ch0 hW4c).mono (fun k hk => ⟨by omega, by omega⟩)
  have hBn4 := (hBn.ch hch2 (fun hm => by have := hbl bn (by simpa using hm); omega)).ch0 hW4c
  have hchW : Ch [] w W4 := (hch.trans hch2 (fun t ht => .inr (by have := hbl t (by simpa using ht); omega))).trans0 hW4c
  rw [hobe] at hatW hob hW4s hb1 ⊢
  refine (wpIn_wide (n := 8)).1 ?_
  gi_wp2
  have hobl := hob.lt
  have hbnl : bn < ob := by omega
  have hobb : base ≤ ob := by omega
  clear hsz2 hatZ hbl hBl hch2 hW4c hBn hch hown
  have fin : Hid (∀ (D : Nat) (ys : List Place) (W : World) (i : Nat) (v : Value), W4.heap.size ≤ D → First (pl Z) key i → picks n (turn (pl Z) i (pl Z).length) = picks n ys → Picked n ob W4.heap.size W4 ys W → W.heap[D]? = some (.deferred (some [])) → Blk W ob 27 [v] → K (.returned v) (W.putObj D (.deferred none))) := hide (by
    intro D ys W i v hD hi he hp hKD hb
    obtain ⟨v', hb', ho', hc'⟩ := (picked_own n ob _ W4 (Nat.le_refl _)).putObj (.deferred none) hp hD hKD rfl
    have hbD : Blk (W.putObj D (.deferred none)) ob 27 [v] := (World.putObj_heap_other (by omega)).trans hb
    obtain rfl : v' = v := by
      have h1 := hb'.symm.trans hbD
      simpa using h1
    refine hK.out _ Z i _ hZ hi ?_ (hchW.trans hc' (fun t ht => .inr ?_))
    · rw [he]
      exact (str_row (ok := fun k => base ≤ k) ho').at_ (fun k hk => by have := (ho'.lt k hk).1; omega)
    · obtain rfl : t = ob := by simpa using ht
      omega)
  clear hK
  refine wpIn_rangeFunc_ownH rfl (by decide) (gf := 83) (lb := #[vPtr b1, vPtr b2]) rfl trivial (enters_of Try.func83 (by kernel_rfl) rfl)
    (round_stops 7 (by decide) b1 b2 W4.heap.size ob (.slice Av P.length cv) (pl Z) key (by omega) W4 (hk1.cell 0) (hk2.cell 0) hatW ⟨by omega, by omega⟩ ⟨by omega, by omega⟩ (Nat.le_refl _))
    (fun h k => h.trans k) ?kb (Below.refl _ _) (fun _ => rfl)
    (Picked n ob W4.heap.size W4) (fun c pre W => (c = .exit 4 ∧ n ≤ ((picks n pre).length : Int)) ∧ Picked n ob W4.heap.size W4 pre W) (picked_own n ob _ W4 (Nat.le_refl _)) ?ix ?h0
    (fun x a' W => ∃ Bx, (W4.heap.size ≤ Bx ∧ a' = { tmps := #[u0, vU64 key, u2, u3, u4, vPtr bn, u6, .slice Av P.length cv, u8, u9, u10, u11, vPtr ob, vPtr Bx, u14, u15, u16, u17, u18, u19, u20, u21, u22, u23, u24, u25, u26, u27, u28, u29, u30, u31, u32, u33, u34, u35, u36, u37, u38, u39, u40, u41, .slice Av P.length cv, vUnit, .slice Av P.length cv, vU64 key, .func (.func 83) #[] #[vPtr b1, vPtr b2], vPlace x, u48, u49, u50, u51, u52, u53, u54, u55, u56, u57, u58, u59, u60, u61, u62], defers := [] }) ∧ Blk W Bx 87 [vU64 x.token, vStr x.name]) ?ax ?assign ?body ?done ?stop
  case kb => exact fun W l o o' hl h1 h2 h3 => ⟨by simp, fun k hk _ => World.putObj_heap_other (by omega)⟩
  case ix => exact fun c s A B row hs hg hr => ⟨hs.1, picked_own n ob _ W4 (Nat.le_refl _) s A B row hs.2 hg hr⟩
  case h0 => exact ⟨_, hob, World.ownsRow_nil _ _ _ _, Ch.refl _ _⟩
  case ax => exact fun x a' _ A B row ⟨Bx, h1, h2⟩ hg hr => ⟨Bx, h1, blk_own Bx _ _ _ h2 hg hr⟩
  case assign =>
    rintro l pre x W K1 ⟨v, hb, ho, hc⟩ hK1
    gi_wp2
    have hcs := hc.size
    exact hK1 _ _ ((KeepsOthers.alloc _ _).from _) ⟨by simp, fun k hk _ => Below.heap_alloc _ _ _ (by omega)⟩ ⟨v, hb.alloc _, Kd.ownsRow_move ho (fun k hk => Below.heap_alloc _ _ _ (ho.lt k hk).2), hc.alloc _⟩ ⟨W.heap.size, ⟨hcs, rfl⟩, Blk.new W 87 [vU64 x.token, vStr x.name]⟩
  case body =>
    rintro l pre x a' W hl ⟨r, hr⟩ ⟨v, hb, ho, hc⟩ ⟨Bx, ⟨hBx, rfl⟩, bX⟩ hlt
    have hcs := hc.size
    obtain ⟨Av2, cv2, rfl⟩ := (str_row (ok := fun _ => True) ho).form
    have hat := (str_row (ok := fun _ => True) ho).at_ (fun _ _ => trivial)
    have cb := hb.cell 0
    have cx := bX.cell 1
    have cn := (hBn4.ch hc (by simp; omega)).cell 0
    have hpb := picks_bound n pre
    by_cases hge : n ≤ ((picks n pre).length : Int)
    · gi_wp2
      exact ⟨KeepsFrom.refl _ _, ⟨rfl, by rw [picks_full hge]; exact hge⟩, ⟨_, hb, by rw [picks_full hge]; exact ho, hc⟩⟩
    · by_cases hin : x.name ∈ picks n pre
      · have e1 : picks n (pre ++ [x]) = picks n pre := by rw [picks_snoc]; unfold take1; rw [if_neg hge, if_pos hin]
        gi_wp2_with (refine ⟨trivial, ?_⟩; gi_at_call 43; refine (CallsIn.inRound l (callsIn_wide.2 (containsStr_w _ _ _ _ _ hat))).mono ?_; rintro e w' ⟨rfl, rfl⟩)
        exact ⟨KeepsFrom.refl _ _, Kq.refl _ _ _, ⟨_, hb, by rw [e1]; exact ho, hc⟩⟩
      · have e1 : picks n (pre ++ [x]) = picks n pre ++ [x.name] := by rw [picks_snoc]; unfold take1; rw [if_neg hge, if_neg hin]
        have E1 := hide e1
        clear e1
        gi_wp2_with (first
          | (gi_at_builtin; go_loud (refine wpListIn_append_own _ rfl _ _ 27 rfl W4.heap.size 9 i0 (.string ⟨#[]⟩) 1 16 Try.underlying27 hi hz0 hz1 hz2 rfl (by decide) (.slice Av2 (picks n pre).length cv2) _ _ rfl (ho.alloc _) ⟨W.heap.size, 0, none⟩ 1 1 [vStr x.name] rfl rfl (cell_one_new _ _ _) (by simp [Value.oneCell']) (by simp only [maxLen]; omega) (by omega) (by simp; omega) ?_; intro v' w1 hown' hgrow _; obtain ⟨g', cap', rfl⟩ := ownsRow_succ hown'; have hch1 : Ch (Value.slice Av2 (picks n pre).length cv2).ownBlock.toList W w1 := ((Ch.refl _ W).alloc _).grown hgrow (fun k hk => .inl (by rw [hk]; simp)); have hrowb := ho.lt; have hb1' := hb.ch hch1 (fun hm => by have := hrowb ob (by simpa using hm); omega); have cb1 := hb1'.cell 0; have fb1 := hb1'.frozen 0))
          | (refine ⟨trivial, ?_⟩; gi_at_call 43; refine (CallsIn.inRound l (callsIn_wide.2 (containsStr_w _ _ _ _ _ hat))).mono ?_; rintro e w' ⟨rfl, rfl⟩))
        have hE : KeepsFrom W4.heap.size W (w1.setCell ⟨ob, 0, none⟩ (.slice (some ⟨g', 0, none⟩) ((picks n pre).length + 1) cap')) := by
          refine (((KeepsOthers.alloc W _).trans (KeepsOthers.of_grownBy hgrow fun j o ej hj => ?_)).trans (KeepsOthers.setCell _ _ _)).from _
          obtain ⟨o', h3, h4⟩ := ownsRow_cells (ho.alloc (.cells #[vStr x.name] 9)) j ej
          rw [h3] at hj
          cases hj
          exact h4
        have hneR : ∀ k, (Value.slice Av2 (picks n pre).length cv2).ownBlock = some k → k ≠ ob := fun k hk => by have := hrowb k hk; omega
        refine ⟨hE, ⟨hE.size, fun k hk hne => ?_⟩, _, hb1'.set_ 0 _, ?_, (hc.trans hch1 (fun t ht => .inr (by have := hrowb t (by simpa using ht); omega))).setCell (.inl (by simp)) _⟩
        · exact (Below.heap_setCell _ _ _ _ hne).trans (hch1.block k (by omega) (fun hm => by have := hrowb k (by simpa using hm); omega))
        · rw [E1.out]
          have hr := Kd.ownsRow_move (w' := w1.setCell ⟨ob, 0, none⟩ (.slice (some ⟨g', 0, none⟩) ((picks n pre).length + 1) cap')) hown' (fun k hk => Below.heap_setCell _ _ _ _ (fun e => by have := (hown'.lt k hk).1; have e : k = ob := e; omega))
          simpa using hr
  case done =>
    rintro D ys W hD ⟨i, hi, rfl⟩ hp hKD
    have hp1 := hp
    obtain ⟨v, hb, ho, hc⟩ := hp
    have cb := hb.cell 0
    gi_wp2
    go_wp2
    refine ⟨by simp, .inl ⟨_, _, rfl, run_takeDeferred hKD, ?_⟩⟩
    refine ⟨v, results_tmp (fn := Try.f10) (t := 6) rfl _ _ _, fin.out D _ W i v hD hi rfl hp1 hKD hb⟩
  case stop =>
    rintro D c pre W hD ⟨i, k, hi, hk, rfl⟩ ⟨⟨rfl, hnn⟩, hp⟩ hKD
    have hp1 := hp
    obtain ⟨v, hb, ho, hc⟩ := hp
    have cb := hb.cell 0
    gi_wp2
    go_wp2
    refine ⟨by simp, .inl ⟨_, _, rfl, run_takeDeferred hKD, ?_⟩⟩
    refine ⟨v, results_tmp (fn := Try.f10) (t := 6) rfl _ _ _, fin.out D _ W i v hD hi ?_ hp1 hKD hb⟩
    obtain ⟨ys, e⟩ := turn_more (pl Z) i k (pl Z).length hk
    rw [e, picks_full hnn]
end Go.Proofs.Ytmojbpgabpbacaa
