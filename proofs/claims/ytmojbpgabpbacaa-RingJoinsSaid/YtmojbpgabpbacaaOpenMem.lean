/- A ring that comes in. -/
import Derived.Test.YtmojbpgabpbacaaProg
import Derived.Test.YtmojbpgabpbacaaOpens
namespace Go.Proofs.Ytmojbpgabpbacaa
open Go.RowKit

theorem Try.cellsStr : Try.prog.cellsOf 9 = 1 := by kernel_rfl
theorem Try.cellsU64 : Try.prog.cellsOf 23 = 1 := by kernel_rfl
theorem Try.cellsU8 : Try.prog.cellsOf 5 = 1 := by kernel_rfl
theorem Try.cellsU64s : Try.prog.cellsOf 29 = 1 := by kernel_rfl
theorem Try.cellsMem : Try.prog.cellsOf 31 = 4 := by kernel_rfl
theorem Try.cellsMems : Try.prog.cellsOf 22 = 1 := by kernel_rfl
/-- What is known of a member that comes in. -/
def memCame (x : Member) : Prop := x.name.length ≤ 140737488351232 ∧ x.epoch < 18446744073709551616 ∧ x.state < 256 ∧ ∀ t ∈ x.tokens, t < 18446744073709551616
theorem len4 {α : Type} : ∀ {l : List α}, l.length = 4 → ∃ a b c d, l = [a, b, c, d]
  | [a, b, c, d], _ => ⟨a, b, c, d, rfl⟩
theorem opens_mem (w : World) : Opens Try.prog w Kd.mem memCame 31 := by
  refine ⟨Try.cellsMem, fun H enc fuel cs x h hw => ?_⟩
  obtain ⟨hl, hf⟩ := opens_fields Try.underlying31 h hw
  rw [Try.cellsMem] at hl
  obtain ⟨_, _, h0, w0⟩ := hf 0 _ rfl
  obtain ⟨_, _, h1, w1⟩ := hf 1 _ rfl
  obtain ⟨_, _, h2, w2⟩ := hf 2 _ rfl
  obtain ⟨_, _, h3, w3⟩ := hf 3 _ rfl
  obtain ⟨y0, k0, g0⟩ := (opens_str (w := w) Try.underlying9 Try.cellsStr).field h0 w0
  obtain ⟨y1, k1, g1⟩ := (opens_u64 (w := w) Try.underlying23 Try.cellsU64).field h1 w1
  obtain ⟨y2, k2, g2⟩ := (opens_byte (w := w) Try.underlying5 Try.cellsU8).field h2 w2
  obtain ⟨y3, k3, g3⟩ := (opens_slice (opens_u64 (w := w) Try.underlying23 Try.cellsU64) (by decide) Try.underlying29 Try.cellsU64s).field h3 w3
  obtain ⟨c0, c1, c2, c3, rfl⟩ := len4 hl
  · obtain ⟨u, k3, k4⟩ := k3
    have e0 : [c0] = [vStr y0] := k0
    have e1 : [c1] = [vU64 y1] := k1
    have e2 : [c2] = [vByte y2] := k2
    have e3 : [c3] = [u] := k3
    injection e0 with e0; injection e1 with e1; injection e2 with e2; injection e3 with e3
    subst e0 e1 e2 e3
    exact ⟨⟨y0, y1, y2, y3⟩, ⟨_, rfl, k4⟩, g0, g1, g2, g3.1⟩
theorem opens_mems (w : World) : Opens Try.prog w (Kd.slice Kd.mem) (fun l => (∀ x ∈ l, memCame x) ∧ l.length * Try.prog.bytesOf 31 ≤ 140737488351232) 22 := opens_slice (opens_mem w) (by decide) Try.underlying22 Try.cellsMems
end Go.Proofs.Ytmojbpgabpbacaa
