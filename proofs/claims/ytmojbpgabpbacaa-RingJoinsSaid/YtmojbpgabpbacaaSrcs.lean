/- append of a string's bytes, or of a whole slice, onto a row of the call's own. -/
import Derived.Test.YtmojbpgabpbacaaKinds
import Derived.Deep.AppendSrc
namespace Go.Proofs.Ytmojbpgabpbacaa
open Go.RowKit

theorem Reps.append {α : Type} {R : α → List Value → Prop} {size : Nat} {ps qs : List α} {cs ds : List Value} (h : Reps R size ps cs) (k : Reps R size qs ds) : Reps R size (ps ++ qs) (cs ++ ds) := by
  refine ⟨by rw [List.length_append, h.1, k.1, List.length_append, Nat.add_mul], fun j q hq => ?_⟩
  by_cases hj : j < ps.length
  · rw [List.getElem?_append_left hj] at hq
    have h1 : j * size + size ≤ cs.length := by rw [h.1, ← Nat.succ_mul]; exact Nat.mul_le_mul_right _ hj
    have h2 := h.2 j q hq
    rwa [List.drop_append_of_le_length (by omega), List.take_append_of_le_length (by rw [List.length_drop]; omega)]
  · obtain ⟨i, rfl⟩ : ∃ i, j = ps.length + i := ⟨j - ps.length, by omega⟩
    rw [List.getElem?_append_right (by omega), show ps.length + i - ps.length = i by omega] at hq
    have := k.2 i q hq
    rwa [Nat.add_mul, ← h.1, ← List.drop_drop, List.drop_left]

section
variable {P : Program} (w : World)
theorem run_append_own_src (base : Nat) (t tx ty e : TypeId) (i : TypeInfo) (z : Value) (size bytes : Nat) (ht : P.underlying t = some (.slice e)) (hi : P.info? e = some i) (hz : i.zero = some z)
    (hsize : i.size = size) (hby : i.bytes = bytes) (hzs : z.cells.size = size) (hsz : 0 < size)
    (v : Value) (n : Nat) (xs : List Value) (hown : w.ownsRow base e size v n xs)
    (x : Value) (m : Nat) (news : List Value) (hs : Src P size tx x m news w)
    (h63 : n + m ≤ maxLen) (hbytes : (n + m) * bytes ≤ 140737488355328) (hbase : base ≤ w.heap.size) :
    ∃ v' w', (Builtin.append_ #[t, tx] ty #[v, x]).run P w = .ok v' w' ∧ w'.ownsRow base e size v' (n + m) (xs ++ news) ∧ w.grownBy w' v.ownBlock ∧
      (v'.ownBlock = v.ownBlock ∨ v'.ownBlock = some w.heap.size) := by
  subst hsize
  subst hby
  have hsmall : n + m ≤ 9223372036854775807 := by simp only [maxLen] at h63; omega
  have hl := hs.newsLen
  have hlen : (xs ++ news).length = (n + m) * i.size := by rw [List.length_append, hown.1, hl, Nat.add_mul]
  have grown : ∀ (old : Nat), old < n + m → ∀ (row : Option Nat),
      (w.drew.alloc (.cells ((xs ++ news).toArray ++ Builtin.zeroCells z.cells (grownCap w (n + m) old e - (n + m))) e)).ownsRow base e i.size
        (.slice (some ⟨w.heap.size, 0, none⟩) (n + m) (grownCap w (n + m) old e)) (n + m) (xs ++ news) ∧
      w.grownBy (w.drew.alloc (.cells ((xs ++ news).toArray ++ Builtin.zeroCells z.cells (grownCap w (n + m) old e - (n + m))) e)) row := by
    intro old ho row
    have hge := grownCap_ge w (n + m) old e
    have hcm : grownCap w (n + m) old e ≤ maxLen := grownCap_le_maxLen w (n + m) old e h63
    refine ⟨⟨hlen, .inr ⟨w.heap.size, _, _, rfl, hbase, heap_alloc_new w.drew _, hge, hcm, ?_, ?_⟩⟩, ⟨rfl, rfl, rfl, by simp, fun k hk _ => Below.heap_alloc w.drew _ k hk⟩⟩
    · rw [Array.size_append, List.size_toArray, size_zeroCells, hzs, hlen, ← Nat.add_mul]
      congr 1
      omega
    · rw [Array.toList_append, ← hlen]
      exact List.take_left
  rcases hown.2 with ⟨rfl, rfl⟩ | ⟨g, cap, cur, rfl, hbg, hg, hnc, hcm, hcs, htake⟩
  · have hx : xs = [] := List.eq_nil_of_length_eq_zero (by simpa using hown.1)
    subst hx
    by_cases hm : m = 0
    · subst hm
      have hn : news = [] := List.eq_nil_of_length_eq_zero (by simpa using hl)
      subst hn
      refine ⟨.slice none 0 0, w, ?_, World.ownsRow_nil w base e i.size, ⟨rfl, rfl, rfl, Nat.le_refl _, fun _ _ _ => rfl⟩, Or.inl rfl⟩
      rcases hs.kind with ⟨e', hk⟩ | hk <;> simp [Builtin.append_, run_underlying ht, run_underlying hk, sizeOf, typeInfo, hi, hs.len, hs.cells]
    · have hr := run_append_grow_src (P := P) w t tx ty e i z ht hi hz none 0 0 [] (run_firstCells_none w.drew i.size 0 0 0) x m news hs (by omega) (by omega) (growslice_fits (by omega) (by simpa using hbytes))
      have hgr := grown 0 (by omega) (Value.ownBlock (.slice none 0 0))
      exact ⟨_, _, hr, hgr.1, hgr.2, Or.inr rfl⟩
  · by_cases hroom : n + m ≤ cap
    · have hfit : n * i.size + news.length ≤ cur.size := by rw [hl, hcs, ← Nat.add_mul]; exact Nat.mul_le_mul_right _ hroom
      have hst := run_storeCells_at P g (n * i.size) e news 0 cur w hg (by simpa using hfit) hs.one
      simp only [Nat.add_zero] at hst
      have hr : (Builtin.append_ #[t, tx] ty #[.slice (some ⟨g, 0, none⟩) n cap, x]).run P w = .ok (.slice (some ⟨g, 0, none⟩) (n + m) cap) (w.setRow g (cur.toList.take (n * i.size) ++ news ++ cur.toList.drop (n * i.size + news.length)).toArray) := by
        rcases hs.kind with ⟨e', hk⟩ | hk <;> simp [Builtin.append_, run_underlying ht, run_underlying hk, sizeOf, typeInfo, hi, hs.len, hroom, hs.cells, Addr.add_lit, hst]
      refine ⟨_, _, hr, ⟨hlen, .inr ⟨g, cap, _, rfl, hbg, setRow_heap w g cur _ e _ hg, hroom, hcm, ?_, ?_⟩⟩, ⟨rfl, rfl, rfl, by simp, fun k _ hk => setRow_other w g k _ (fun e => hk (by simp [Value.ownBlock, e]))⟩, Or.inl rfl⟩
      · simp only [List.size_toArray, List.length_append, List.length_take, List.length_drop, Array.length_toList]
        omega
      · rw [htake, ← hlen]
        exact List.take_left
    · have holds : ∀ j u, xs[j]? = some u → w.drew.cell? ((⟨g, 0, none⟩ : Addr).add j) = some u := fun j u hj => by simpa using hown.cells (g := g) rfl j u hj
      have hr := run_append_grow_src (P := P) w t tx ty e i z ht hi hz (some ⟨g, 0, none⟩) n cap xs (run_firstCells_some w.drew i.size n ⟨g, 0, none⟩ n cap xs hown.1 holds) x m news hs (by omega) (by omega) (growslice_fits (by omega) hbytes)
      have hgr := grown cap (by omega) (Value.ownBlock (.slice (some ⟨g, 0, none⟩) n cap))
      exact ⟨_, _, hr, hgr.1, hgr.2, Or.inr rfl⟩
end

namespace Kd
section
variable {α : Type} {P : Program} {ops : Array Oper} {rest : List Oper} {o : Oper} {a : Act} {Q : Exit → Act → World → Prop} {K : Act → World → Prop}
theorem append_src (d : Kd α) {W : World} {base : Nat} {ok : Nat → Prop} (s x : Operand) (t tx e : TypeId) (z : Value) (bytes : Nat)
    (ho : o.op = .call { callee := .builtin .append, args := #[s, x], argTypes := #[t, tx] })
    (ht : P.underlying t = some (.slice e)) (hinfo : (P.info? e).map (fun i => (i.zero, i.size, i.bytes)) = some (some z, d.sz, bytes)) (hz : z.cells.size = d.sz) (hs0 : 0 < d.sz) (hb0 : 0 < bytes)
    {v : Value} {xs ps : List α} {news : List Value} (hs : a.eval s = v) {y : Value} (hx : a.eval x = y) (hsrc : Src P d.sz tx y ps.length news W) (hp : Reps (d.K W (fun k => ok k ∧ some k ≠ v.ownBlock)) d.sz ps news)
    (HO : d.Own e W base ok v xs) (hbase : base ≤ W.heap.size) (hl : (xs.length + ps.length) * bytes ≤ 140737488355328)
    (h : ∀ v1 w1, d.Own e w1 base ok v1 (xs ++ ps) → Ch v.ownBlock.toList W w1 → (v1.ownBlock = v.ownBlock ∨ ∃ b, v1.ownBlock = some b ∧ W.heap.size ≤ b) → K (a.put o.dst v1) w1) :
    o.wp P a W K Q := by
  obtain ⟨i0, hi, hzz⟩ := Option.map_eq_some_iff.1 hinfo
  simp only [Prod.mk.injEq] at hzz
  obtain ⟨hz0, hz1, hz2⟩ := hzz
  obtain ⟨inner, h1, h2⟩ := HO
  have hlen : xs.length + ps.length ≤ 140737488355328 := Nat.le_trans (Nat.le_mul_of_pos_right _ hb0) hl
  obtain ⟨v', w', hr, hown, hg, hat⟩ := run_append_own_src (P := P) W base t tx o.type e i0 z d.sz bytes ht hi hz0 hz1 hz2 hz hs0 v xs.length inner h1 y ps.length news hsrc (by simp only [maxLen]; omega) hl hbase
  have hch : Ch v.ownBlock.toList W w' := (Ch.refl _ W).grown hg (fun k hk => .inl (by rw [hk]; simp))
  have hat' : v'.ownBlock = v.ownBlock ∨ ∃ b, v'.ownBlock = some b ∧ W.heap.size ≤ b := by
    rcases hat with hat | hat
    · exact .inl hat
    · exact .inr ⟨_, hat, Nat.le_refl _⟩
  have hK : ∀ q c, d.K W (fun k => ok k ∧ some k ≠ v.ownBlock) q c → d.K w' (fun k => ok k ∧ some k ≠ v'.ownBlock) q c := by
    intro q c hq
    rcases hat' with hat | ⟨b, hb1, hb2⟩
    · rw [hat]
      exact d.K_ch hq hch (fun k hk _ hm => hk.2 (by simpa [eq_comm] using hm))
    · have hq1 : d.K W (fun k => (ok k ∧ some k ≠ v.ownBlock) ∧ k < W.heap.size) q c := d.bound hq
      refine d.mono (fun k hk => ⟨hk.1.1, ?_⟩) (d.K_ch hq1 hch (fun k hk _ hm => hk.1.2 (by simpa [eq_comm] using hm)))
      rw [hb1]
      intro he
      injection he with he
      omega
  unfold Oper.wp execOp
  simp only [ho, resolve, invoke, builtin, Sem.run_bind, Sem.run_pure, Result.andThen_ok, List.map_toArray, List.map_cons, List.map_nil, hs, hx, hr]
  exact h v' w' ⟨inner ++ news, by rw [List.length_append]; exact hown, (h2.imp hK).append (hp.imp hK)⟩ hch hat'
theorem wpList_append_src (d : Kd α) {W : World} {base : Nat} {ok : Nat → Prop} (hgd : o.guard = none) (s x : Operand) (t tx e : TypeId) (z : Value) (bytes : Nat)
    (ho : o.op = .call { callee := .builtin .append, args := #[s, x], argTypes := #[t, tx] })
    (ht : P.underlying t = some (.slice e)) (hinfo : (P.info? e).map (fun i => (i.zero, i.size, i.bytes)) = some (some z, d.sz, bytes)) (hz : z.cells.size = d.sz) (hs0 : 0 < d.sz) (hb0 : 0 < bytes)
    {v : Value} {xs ps : List α} {news : List Value} (hs : a.eval s = v) {y : Value} (hx : a.eval x = y) (hsrc : Src P d.sz tx y ps.length news W) (hp : Reps (d.K W (fun k => ok k ∧ some k ≠ v.ownBlock)) d.sz ps news)
    (HO : d.Own e W base ok v xs) (hbase : base ≤ W.heap.size) (hl : (xs.length + ps.length) * bytes ≤ 140737488355328)
    (h : ∀ v1 w1, d.Own e w1 base ok v1 (xs ++ ps) → Ch v.ownBlock.toList W w1 → (v1.ownBlock = v.ownBlock ∨ ∃ b, v1.ownBlock = some b ∧ W.heap.size ≤ b) → wpList P ops Q rest (a.put o.dst v1) w1) :
    wpList P ops Q (o :: rest) a W :=
  wpList_plain hgd fun _ hK => append_src d s x t tx e z bytes ho ht hinfo hz hs0 hb0 hs hx hsrc hp HO hbase hl fun v1 w1 h1 h2 h3 => hK _ _ (h v1 w1 h1 h2 h3)
end
end Kd

/-! ### rows of bytes -/
def Kd.u8 : Kd UInt8 := Kd.scalar (fun x => vByte x.toNat) (fun _ => rfl)
theorem reps_bytes (w : World) (ok : Nat → Prop) (l : Bytes) : Reps (Kd.u8.K w ok) 1 l (byteCells (bs l)) := by
  have e : byteCells (bs l) = l.map (fun x => vByte x.toNat) := rfl
  refine ⟨by rw [e, List.length_map, Nat.mul_one], fun j p hj => ?_⟩
  rw [e, Nat.mul_one]
  have hlt := (List.getElem?_eq_some_iff.1 hj).1
  rw [← List.map_drop, List.drop_eq_getElem_cons hlt, ← (List.getElem?_eq_some_iff.1 hj).2]
  rfl
theorem Kd.u8_cell {w : World} {ok : Nat → Prop} {b o k : Nat} {xs : Bytes} (h : u8.Row w ok (some ⟨b, o, none⟩) xs) (hk : k < xs.length) : w.cell? ⟨b, o + k, none⟩ = some (vByte xs[k].toNat) := by
  obtain ⟨cs, e, hc⟩ := h.elem' hk
  have := hc 0 (vByte xs[k].toNat) (by rw [show cs = [vByte xs[k].toNat] from e]; rfl)
  simpa [u8, scalar] using this
/-- string(row). -/
theorem run_text {P : Program} {w : World} {ok : Nat → Prop} {v : Value} {l : Bytes} (src dst e : TypeId) (hs : P.underlying src = some (.slice e)) (he : P.underlying e = some (.int .u8)) (hd : P.underlying dst = some .string)
    (h : Kd.u8.At w ok v l) : (convert src dst v).run P w = .ok (vStr l) w := by
  obtain ⟨A, c, rfl, h1, h2, h3⟩ := h
  by_cases hl : 0 < l.length
  · obtain ⟨b, o, rfl, _, _⟩ := h3.addr hl
    exact run_convert_bytes_back w src dst e ⟨b, o, none⟩ c l hs he hd (fun j hj => by
      rw [Addr.add_lit]
      exact Kd.u8_cell h3 hj)
  · obtain rfl : l = [] := List.eq_nil_of_length_eq_zero (by omega)
    cases A with
    | none => rw [show ([] : Bytes).length = 0 from rfl, run_convert_bytes_nil w src e hs he 0 c dst hd]; rfl
    | some a => exact run_convert_bytes_back w src dst e a c [] hs he hd (fun j hj => absurd hj (by simp))
end Go.Proofs.Ytmojbpgabpbacaa
