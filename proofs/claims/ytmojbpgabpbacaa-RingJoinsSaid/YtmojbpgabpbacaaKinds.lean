/- How the program's records lie in memory: one kind for each record type, and what one reads of it. -/
import Derived.Test.YtmojbpgabpbacaaWords
import Derived.Test.YtmojbpgabpbacaaSpec
namespace Go.Proofs.Ytmojbpgabpbacaa
open Go.RowKit

/-- A text as the program holds it. -/
def bs (l : Bytes) : ByteArray := ⟨l.toArray⟩
@[simp, go_sem] theorem bs_toList (l : Bytes) : (bs l).toList = l := ByteArray.toList_mk l
@[simp, go_sem] theorem bs_size (l : Bytes) : (bs l).size = l.length := by simp [bs, ByteArray.size]
theorem bs_eta (s : ByteArray) : bs s.data.toList = s := rfl
theorem bs_inj {a b : Bytes} (h : bs a = bs b) : a = b := by have := congrArg ByteArray.toList h; simpa using this

theorem bs_extract (s : Bytes) (a b : Nat) : (bs s).extract a b = bs ((s.drop a).take (b - a)) := by
  have h : ((bs s).extract a b).data = (bs ((s.drop a).take (b - a))).data := by
    apply Array.ext'
    rw [ByteArray.data_extract]
    simp [bs]
  cases h1 : (bs s).extract a b
  cases h2 : bs ((s.drop a).take (b - a))
  rw [h1, h2] at h
  simpa using h
@[simp, go_sem] theorem bs_getElem (l : Bytes) (i : Nat) (h : i < (bs l).size) : (bs l)[i]'h = l[i]'(by simpa using h) := rfl
attribute [go_sem] leq_below bs_extract

abbrev vStr (l : Bytes) : Value := .string (bs l)
abbrev vU64 (n : Nat) : Value := .int .u64 n
abbrev vInt (n : Nat) : Value := .int .i64 n
abbrev vErr (n : Int) : Value := .int .i64 n
abbrev vByte (n : Nat) : Value := .int .u8 n

namespace Kd
def u64 : Kd Nat := scalar (fun n => vU64 n) (fun _ => rfl)
def str : Kd Bytes := scalar vStr (fun _ => rfl)
def int : Kd Int := scalar (Value.int .i64) (fun _ => rfl)
def entry : Kd Entry := flat 2 (fun x => [vStr x.actor, vU64 x.count]) (fun _ => rfl) (fun x u hu => by
  simp only [List.mem_cons, List.not_mem_nil, or_false] at hu
  rcases hu with rfl | rfl <;> rfl)
def nv : Kd NV := flat 2 (fun x => [vStr x.name, vStr x.value]) (fun _ => rfl) (fun x u hu => by
  simp only [List.mem_cons, List.not_mem_nil, or_false] at hu
  rcases hu with rfl | rfl <;> rfl)
theorem one_at {α : Type} {d : Kd α} {w : World} {ok : Nat → Prop} {v : Value} {xs : List α} (h : d.At w ok v xs) : v.oneCell' = true := by
  obtain ⟨A, c, rfl, _⟩ := h
  rfl
def mem : Kd Member where
  sz := 4
  K := fun w ok x cs => ∃ t, cs = [vStr x.name, vU64 x.epoch, vByte x.state, t] ∧ u64.At w ok t x.tokens
  len := by rintro w ok x cs ⟨t, rfl, _⟩; rfl
  one := by
    rintro w ok x cs ⟨t, rfl, h⟩ u hu
    simp only [List.mem_cons, List.not_mem_nil, or_false] at hu
    rcases hu with rfl | rfl | rfl | rfl <;> first | rfl | exact one_at h
  mono := by rintro w ok ok' x cs hk ⟨t, rfl, h⟩; exact ⟨t, rfl, h.mono hk⟩
  bound := by rintro w ok x cs ⟨t, rfl, h⟩; exact ⟨t, rfl, h.bound⟩
  move := by rintro w w' ok x cs hm hs ⟨t, rfl, h⟩; exact ⟨t, rfl, h.move hm hs⟩
section
variable {w : World} {ok : Nat → Prop} {b o k : Nat}
theorem u64_cell {xs : List Nat} (h : u64.Row w ok (some ⟨b, o, none⟩) xs) (hk : k < xs.length) : w.cell? ⟨b, o + k, none⟩ = some (vU64 xs[k]) := by
  obtain ⟨cs, e, hc⟩ := h.elem' hk
  have := hc 0 (vU64 xs[k]) (by rw [show cs = [vU64 xs[k]] from e]; rfl)
  simpa [u64, scalar] using this
theorem entry_cells {xs : List Entry} (h : entry.Row w ok (some ⟨b, o, none⟩) xs) (hk : k < xs.length) :
    w.cell? ⟨b, o + k * 2, none⟩ = some (vStr xs[k].actor) ∧ w.cell? ⟨b, o + k * 2 + 1, none⟩ = some (vU64 xs[k].count) := by
  obtain ⟨cs, e, hc⟩ := h.elem' hk
  have e : cs = [vStr xs[k].actor, vU64 xs[k].count] := e
  subst e
  exact ⟨hc 0 _ rfl, hc 1 _ rfl⟩
theorem nv_cells {xs : List NV} (h : nv.Row w ok (some ⟨b, o, none⟩) xs) (hk : k < xs.length) :
    w.cell? ⟨b, o + k * 2, none⟩ = some (vStr xs[k].name) ∧ w.cell? ⟨b, o + k * 2 + 1, none⟩ = some (vStr xs[k].value) := by
  obtain ⟨cs, e, hc⟩ := h.elem' hk
  have e : cs = [vStr xs[k].name, vStr xs[k].value] := e
  subst e
  exact ⟨hc 0 _ rfl, hc 1 _ rfl⟩
theorem mem_cells {xs : List Member} (h : mem.Row w ok (some ⟨b, o, none⟩) xs) (hk : k < xs.length) :
    ∃ T m, w.cell? ⟨b, o + k * 4, none⟩ = some (vStr xs[k].name) ∧ w.cell? ⟨b, o + k * 4 + 1, none⟩ = some (vU64 xs[k].epoch) ∧ w.cell? ⟨b, o + k * 4 + 2, none⟩ = some (vByte xs[k].state) ∧ w.cell? ⟨b, o + k * 4 + 3, none⟩ = some (.slice T xs[k].tokens.length m) ∧ u64.At w ok (.slice T xs[k].tokens.length m) xs[k].tokens := by
  obtain ⟨cs, ⟨t, rfl, T, m, rfl, ht⟩, hc⟩ := h.elem' hk
  refine ⟨T, m, hc 0 _ rfl, hc 1 _ rfl, hc 2 _ rfl, hc 3 _ rfl, T, m, rfl, ht⟩
end
end Kd
end Go.Proofs.Ytmojbpgabpbacaa
