/- Package pen: Text, Byte, End. -/
import Derived.Test.YtmojbpgabpbacaaPen
namespace Go.Proofs.Ytmojbpgabpbacaa
open Go.RowKit

theorem Try.infoU8 : (Try.prog.info? 5).map (fun i => (i.zero, i.size, i.bytes)) = some (some (.int .u8 0), 1, 1) := by kernel_rfl
theorem Kd.str_cell {w : World} {ok : Nat → Prop} {b o k : Nat} {xs : List Bytes} (h : str.Row w ok (some ⟨b, o, none⟩) xs) (hk : k < xs.length) : w.cell? ⟨b, o + k, none⟩ = some (vStr xs[k]) := by
  obtain ⟨cs, e, hc⟩ := h.elem' hk
  have := hc 0 (vStr xs[k]) (by rw [show cs = [vStr xs[k]] from e]; rfl)
  simpa [str, scalar] using this
theorem form2 {α : Type} {d : Kd α} {e : TypeId} {w : World} {base : Nat} {ok : Nat → Prop} {v : Value} {xs ps : List α} (h : d.Own e w base ok v (xs ++ ps)) : ∃ A c, v = .slice A (xs.length + ps.length) c := by
  obtain ⟨A, c, e⟩ := h.form
  exact ⟨A, c, by rw [e, List.length_append]⟩
/-- What an append, and the store of its value into the pen, leave. -/
theorem Wr.stored {w w1 : World} {b m : Nat} {v v1 : Value} {out t : Bytes} (hb : Blk w b 161 [v, vInt m, vErr 0]) (hbR : b ∉ v.ownBlock.toList) (hl : out.length + t.length ≤ m) (hm : m ≤ 1000000)
    (hown : Kd.u8.Own 5 w1 0 (fun _ => True) v1 (out ++ t)) (hch : Ch v.ownBlock.toList w w1) (hat : v1.ownBlock = v.ownBlock ∨ ∃ b, v1.ownBlock = some b ∧ w.heap.size ≤ b) :
    Wr w (w1.setCell ⟨b, 0, none⟩ v1) b m v.ownBlock.toList out 0 t v1.ownBlock.toList (out ++ t) 0 := by
  have hb1 := hb.ch hch hbR
  have hbn : b ∉ v1.ownBlock.toList := by
    rcases hat with h | ⟨g, h, hg⟩
    · rw [h]; exact hbR
    · rw [h]
      have := hb.lt
      simp
      omega
  refine ⟨⟨v1, hb1.set_ 0 v1, Kd.u8_own_ch hown ((Ch.refl [b] w1).setCell (by simp) _) (fun k hk hm => hbn (by simp at hm; subst hm; simp [hk])), rfl, hbn, by simpa using hl, hm⟩, ?_, fun g hg => ?_, ⟨fun h => absurd rfl h, fun _ => ⟨fun _ => ⟨rfl, rfl⟩, fun h => absurd h (by omega)⟩⟩⟩
  · exact (hch.mono (T := b :: v.ownBlock.toList) (fun t ht => .inl (by simp [ht]))).setCell (by simp) _
  · rcases hat with h | ⟨k, h, hk⟩
    · rw [h] at hg; exact .inl hg
    · rw [h] at hg
      right
      simp at hg
      omega

set_option maxHeartbeats 1600000 in
theorem penText_w (w : World) (ok : Nat → Prop) (b m : Nat) (R : List Nat) (out : Bytes) (e : Int) (l : Value) (ts : List Bytes) (hts : ∀ t ∈ ts, t.length ≤ 140737488351232) (h : Pen w b m R out e) (hl : Kd.str.At w ok l ts) (hok : ∀ k, ok k → k ∉ b :: R) :
    Calls Try.prog 127 #[vPtr b, l] w fun r w' => r = .returned vUnit ∧ ∃ R' out' e', Wr w w' b m R out e ts.flatten R' out' e' := by
  refine calls_hide fun K hK => ?_
  have hbl := hl.bound
  obtain ⟨A, c, rfl, hc, hm, hrow⟩ := hl
  unfold maxLen at hm
  go_enter Try.func127, Try.ntmps127
  go_wp2
  go_loopw [8] (fun i wr => ∃ k R1 o1 e1, i = vInt k ∧ k ≤ ts.length ∧ Wr w wr b m R out e (ts.take k).flatten R1 o1 e1) (fun i _ => ts.length - (intOf i).toNat)
  case atStart => exact ⟨0, R, out, e, rfl, by omega, by simpa using Wr.refl h⟩
  case round =>
    obtain ⟨k, R1, o1, e1, rfl, hk, hw⟩ := hrel
    by_cases hlt : k < ts.length
    · obtain ⟨g, o, rfl, hg, hgl⟩ := hrow.addr (by omega)
      have c0 := Kd.str_cell (hrow.ch hw.ch (fun k h1 _ => hok k h1)) hlt
      have htl := hts _ (List.getElem_mem hlt)
      have htk : (ts.take (k + 1)).flatten = (ts.take k).flatten ++ ts[k] := by rw [List.take_succ_eq_append_getElem hlt, List.flatten_append, List.flatten_singleton]
      have hp := hw.pen
      by_cases hr : e1 = 0 ∧ o1.length + ts[k].length ≤ m
      · obtain ⟨rfl, hr⟩ := hr
        obtain ⟨v, hb, hown, rfl, hbR, hlm, hmm⟩ := hp
        have b0 := hb.cell 0
        go_wp2_with (first
          | (go_at_call 166; refine (penRoom_t _ _ _ _ _ _ hw.pen hr).mono ?_; rintro e w' ⟨rfl, nq, rfl⟩)
          | (at_builtin; refine Kd.wpList_append_src Kd.u8 rfl (.tmp 21) (.tmp 22) 159 9 5 _ 1 rfl Try.underlying159 Try.infoU8 rfl (by decide) (by decide) (v := v) (ps := ts[k]) rfl rfl (Src.ofString _ Try.underlying9 _) (reps_bytes _ _ _) (Kd.u8_own_ch hown ((Ch.refl [] _).drewN _) (by simp)) (Nat.zero_le _) (by omega) ?_; intro v1 w7 hown7 hch7 hat7; obtain ⟨A7, c7, rfl⟩ := form2 hown7; have hch8 := ((Ch.refl v.ownBlock.toList _).drewN nq).trans' hch7; have b1 := (hb.ch hch8 hbR).cell 0; have f1 := (hb.ch hch8 hbR).frozen 0))
        go_roundw
        case rel => exact ⟨k + 1, _, _, _, by go_num, by omega, hw.seq' (Wr.stored hb hbR hr hmm hown7 hch8 hat7) htk⟩
        case measure => simp [intOf]; omega
      · go_wp2_with (first
          | (go_at_call 166; refine (penRoom_f _ _ _ _ _ _ _ hw.pen hr).mono ?_; rintro e w' ⟨rfl, e2, he2, hp2, hch2⟩))
        go_end0
        have he3 := room_ne he2
        have hW : Wr wr w' b m R1 o1 e1 ts[k] R1 o1 e2 := hp2.refused he2 hr hch2
        refine hK.out _ _ ⟨rfl, R1, o1, e2, ?_⟩
        have := ((hw.seq' hW htk).fail he3 (ts.drop (k + 1)).flatten)
        rwa [← List.flatten_append, List.take_append_drop] at this
    · go_wp2
      go_end0
      have : ts.take k = ts := List.take_of_length_le (by omega)
      rw [this] at hw
      exact hK.out _ _ ⟨rfl, R1, o1, e1, hw⟩

theorem Kd.one_at_ {α : Type} (d : Kd α) (w : World) (t : TypeId) {x : α} {cs : List Value} {ok : Nat → Prop} (hk : d.K w ok x cs) (h0 : ok w.heap.size) :
    d.At (w.alloc (.cells cs.toArray t)) ok (.slice (some ⟨w.heap.size, 0, none⟩) 1 1) [x] :=
  ⟨_, 1, rfl, Nat.le_refl _, by decide, fun _ => ⟨_, _, rfl, h0, by simp, fun j y hj => by
    cases j with
    | zero =>
      obtain rfl : x = y := by simpa using hj
      refine ⟨cs, d.K_ch0 hk ((Ch.refl _ _).alloc _), fun i u hu => ?_⟩
      have := (Blk.new w t cs).cell i
      simp [hu] at this ⊢
    | succ j => simp at hj⟩⟩

set_option maxHeartbeats 1600000 in
theorem penByte_w (w : World) (ok : Nat → Prop) (b m : Nat) (R : List Nat) (out : Bytes) (e : Int) (l : Value) (ts : Bytes) (h : Pen w b m R out e) (hl : Kd.u8.At w ok l ts) (hok : ∀ k, ok k → k ∉ b :: R) :
    Calls Try.prog 129 #[vPtr b, l] w fun r w' => r = .returned vUnit ∧ ∃ R' out' e', Wr w w' b m R out e ts R' out' e' := by
  refine calls_hide fun K hK => ?_
  obtain ⟨A, c, rfl, hc, hm, hrow⟩ := hl
  unfold maxLen at hm
  go_enter Try.func129, Try.ntmps129
  go_wp2
  go_loopw [8] (fun i wr => ∃ k R1 o1 e1, i = vInt k ∧ k ≤ ts.length ∧ Wr w wr b m R out e (ts.take k) R1 o1 e1) (fun i _ => ts.length - (intOf i).toNat)
  case atStart => exact ⟨0, R, out, e, rfl, by omega, by simpa using Wr.refl h⟩
  case round =>
    obtain ⟨k, R1, o1, e1, rfl, hk, hw⟩ := hrel
    by_cases hlt : k < ts.length
    · obtain ⟨g, o, rfl, hg, hgl⟩ := hrow.addr (by omega)
      have c0 := Kd.u8_cell (hrow.ch hw.ch (fun k h1 _ => hok k h1)) hlt
      have htk : ts.take (k + 1) = ts.take k ++ [ts[k]] := List.take_succ_eq_append_getElem hlt
      have hp := hw.pen
      by_cases hr : e1 = 0 ∧ o1.length + 1 ≤ m
      · obtain ⟨rfl, hr⟩ := hr
        obtain ⟨v, hb, hown, rfl, hbR, hlm, hmm⟩ := hp
        have b0 := hb.cell 0
        go_wp2_with (first
          | (go_at_call 166; refine (penRoom_t _ _ _ _ _ 1 hw.pen hr).mono ?_; rintro e w' ⟨rfl, nq, rfl⟩)
          | (at_builtin; refine Kd.wpList_append Kd.u8 rfl (.tmp 19) (.tmp 21) 159 5 _ 1 rfl Try.underlying159 Try.infoU8 rfl (by decide) (by decide) (v := v) rfl rfl rfl (p := ts[k]) (cs := [vByte ts[k].toNat]) rfl (Kd.u8_own_ch hown ((Ch.refl [] _).drewN _) (by simp)) (Nat.zero_le _) (by omega) ?_; intro v1 w7 hown7 hch7 hat7; obtain ⟨A7, c7, rfl⟩ := form2 hown7; have hch8 := ((Ch.refl v.ownBlock.toList _).drewN nq).trans' hch7; have b1 := (hb.ch hch8 hbR).cell 0; have f1 := (hb.ch hch8 hbR).frozen 0))
        go_roundw
        case rel => exact ⟨k + 1, _, _, _, by go_num, by omega, hw.seq' (Wr.stored (t := [ts[k]]) hb hbR hr hmm hown7 hch8 hat7) htk⟩
        case measure => simp [intOf]; omega
      · go_wp2_with (first
          | (go_at_call 166; refine (penRoom_f _ _ _ _ _ _ 1 hw.pen hr).mono ?_; rintro e w' ⟨rfl, e2, he2, hp2, hch2⟩))
        go_end0
        have he3 := room_ne he2
        have hW : Wr wr w' b m R1 o1 e1 [ts[k]] R1 o1 e2 := hp2.refused he2 hr hch2
        refine hK.out _ _ ⟨rfl, R1, o1, e2, ?_⟩
        have := ((hw.seq' hW htk).fail he3 (ts.drop (k + 1)))
        rwa [List.take_append_drop] at this
    · go_wp2
      go_end0
      have : ts.take k = ts := List.take_of_length_le (by omega)
      rw [this] at hw
      exact hK.out _ _ ⟨rfl, R1, o1, e1, hw⟩

set_option maxHeartbeats 800000 in
theorem penEnd_w (w : World) (b m : Nat) (R : List Nat) (out : Bytes) (e : Int) (h : Pen w b m R out e) :
    Calls Try.prog 50 #[vPtr b] w fun r w' => r = .returned (.tuple #[vStr (if e = 0 then out else []), vErr e]) ∧ w' = w := by
  refine calls_hide fun K hK => ?_
  have hp := h
  obtain ⟨v, hb, hown, rfl, hbR, hlm, hm⟩ := h
  have c0 := hb.cell 0
  have hat := hown.at_ (fun _ _ => trivial)
  obtain ⟨A, c, rfl⟩ := hown.form
  by_cases he : e = 0
  · subst he
    have ht := fun w' (h : w' = w) => by subst h; exact run_text (P := Try.prog) 159 9 5 Try.underlying159 Try.underlying5 Try.underlying9 hat
    have ht0 := ht w rfl
    clear ht
    go_enter Try.func50, Try.ntmps50
    go_wp2_with (first
      | (go_at_call 96; refine (penErr_w _ _ _ _ _ _ hp).mono ?_; rintro e w' ⟨rfl, rfl⟩))
    exact hK.out _ _ ⟨rfl, rfl⟩
  · have q : (e != 0) = true := by simp [he]
    go_enter Try.func50, Try.ntmps50
    go_wp2_with (first
      | (go_at_call 96; refine (penErr_w _ _ _ _ _ _ hp).mono ?_; rintro e w' ⟨rfl, rfl⟩))
    exact hK.out _ _ ⟨by simp only [if_neg he]; rfl, rfl⟩
end Go.Proofs.Ytmojbpgabpbacaa
