/- What is read of an argument, as one of the kinds: the bridge from a row's reading to the walks' words. -/
import Derived.Test.YtmojbpgabpbacaaKinds
import Derived.ProofKit
import Derived.OpenShut
import Derived.Deep.Slices
import Derived.Carry
import Derived.SizedLaws
import Derived.Below
import Derived.ChangeSame
import Derived.ChangeArms
namespace Go.Proofs.Ytmojbpgabpbacaa
open Go.RowKit Go.ChangeShapes Go.WideShapes

section
variable {P : Program} {w : World} {α β : Type}
/-- What reads at type t is of kind d, and 'good'. -/
def Opens (P : Program) (w : World) (d : Kd α) (good : α → Prop) (t : TypeId) : Prop :=
  P.cellsOf t = d.sz ∧ ∀ (H : Type) (enc : TypeId × Value → H) (fuel : Nat) (cs : List Value) (x : DataW H × List MemPlace),
    DataW.trod enc P w 0 (fun _ => true) true fuel t cs = some x → (∀ n ∈ x.1.weights P t, n ≤ reachBytes) → ∃ y, d.K w (fun _ => True) y cs ∧ good y
theorem Opens.imp {d : Kd α} {g g' : α → Prop} {t : TypeId} (h : Opens P w d g t) (hg : ∀ x, g x → g' x) : Opens P w d g' t :=
  ⟨h.1, fun H enc fuel cs x h1 h2 => let ⟨y, h3, h4⟩ := h.2 H enc fuel cs x h1 h2; ⟨y, h3, hg _ h4⟩⟩
theorem opens_str {t : TypeId} (ht : P.underlying t = some .string) (hc : P.cellsOf t = 1) : Opens P w Kd.str (fun s => s.length ≤ 140737488351232) t :=
  ⟨hc, fun H enc fuel cs x h hw => by
    obtain ⟨s, rfl, rfl, hs⟩ := DataW.trod_string ht h
    have := hw s.data.toList.length (by simp [DataW.weights])
    exact ⟨s.data.toList, rfl, this⟩⟩
theorem opens_int {t : TypeId} {k : IntKind} (ht : P.underlying t = some (.int k)) (hc : P.cellsOf t = 1) : Opens P w (Kd.scalar (Value.int k) (fun _ => rfl)) (fun n => (Lit.int k n).wf = true) t :=
  ⟨hc, fun H enc fuel cs x h hw => by
    obtain ⟨n, rfl, rfl, hn⟩ := DataW.trod_int ht h
    exact ⟨n, rfl, hn⟩⟩
theorem opens_u64 {t : TypeId} (ht : P.underlying t = some (.int .u64)) (hc : P.cellsOf t = 1) : Opens P w Kd.u64 (fun n => n < 18446744073709551616) t :=
  ⟨hc, fun H enc fuel cs x h hw => by
    obtain ⟨n, rfl, rfl, hn⟩ := DataW.trod_int ht h
    have hx : 0 ≤ n ∧ n ≤ 18446744073709551615 := by simpa [Lit.wf, IntKind.min, IntKind.max, IntKind.signed, IntKind.bits] using hn
    exact ⟨n.toNat, by show [Value.int .u64 n] = [Value.int .u64 n.toNat]; rw [Int.toNat_of_nonneg hx.1], by omega⟩⟩
def Kd.byte : Kd Nat := Kd.scalar (fun n => vByte n) (fun _ => rfl)
theorem opens_byte {t : TypeId} (ht : P.underlying t = some (.int .u8)) (hc : P.cellsOf t = 1) : Opens P w Kd.byte (fun n => n < 256) t :=
  ⟨hc, fun H enc fuel cs x h hw => by
    obtain ⟨n, rfl, rfl, hn⟩ := DataW.trod_int ht h
    have hx : 0 ≤ n ∧ n ≤ 255 := by simpa [Lit.wf, IntKind.min, IntKind.max, IntKind.signed, IntKind.bits] using hn
    exact ⟨n.toNat, by show [Value.int .u8 n] = [Value.int .u8 n.toNat]; rw [Int.toNat_of_nonneg hx.1], by omega⟩⟩
def Kd.bool : Kd Bool := Kd.scalar Value.bool (fun _ => rfl)
theorem opens_bool {t : TypeId} (ht : P.underlying t = some .bool) (hc : P.cellsOf t = 1) : Opens P w Kd.bool (fun _ => True) t :=
  ⟨hc, fun H enc fuel cs x h hw => by
    obtain ⟨b, rfl, rfl⟩ := DataW.trod_bool ht h
    exact ⟨b, rfl, trivial⟩⟩
theorem weightsAll_mem {H : Type} {P : Program} {e : TypeId} : ∀ {ds : List (DataW H)} {d : DataW H}, d ∈ ds → ∀ n ∈ d.weights P e, n ∈ DataW.weightsAll P e ds := by
  intro ds
  induction ds with
  | nil => intro d h; cases h
  | cons x r ih =>
    intro d h n hn
    simp only [DataW.weightsAll, List.mem_append]
    rcases List.mem_cons.1 h with rfl | h
    · exact .inl hn
    · exact .inr (ih h n hn)
theorem spot_none {w : World} {a : Addr} {v : Value} (h : w.cell? a = some v) : ∃ b o, a = ⟨b, o, none⟩ := by
  obtain ⟨b, o, s⟩ := a
  cases s with
  | none => exact ⟨b, o, rfl⟩
  | some s =>
    exfalso
    unfold World.cell? at h
    split at h <;> simp at h
theorem opens_slice {d : Kd α} {good : α → Prop} {t e : TypeId} (hd : Opens P w d good e) (hs : 0 < d.sz) (ht : P.underlying t = some (.slice e)) (hc : P.cellsOf t = 1) :
    Opens P w (Kd.slice d) (fun l => (∀ x ∈ l, good x) ∧ l.length * P.bytesOf e ≤ 140737488351232) t := by
  refine ⟨hc, fun H enc fuel cs x h hw => ?_⟩
  rcases DataW.trod_slice ht h with ⟨rfl, rfl⟩ | ⟨a, len, cap, elems, rest, n, rfl, rfl, rfl, _, hlc, hcm, hel, helems, hsp, _⟩
  · exact ⟨[], ⟨_, rfl, Kd.At.nil _ _ _⟩, by simp, by simp⟩
  · simp only [DataW.weights, ht] at hw
    have hone : ∀ i : Fin len, ∃ y : α, good y ∧ ∃ ds, d.K w (fun _ => True) y ds ∧ ∀ j, j < d.sz → w.cell? ((a.add (i.1 * d.sz)).add j) = ds[j]? := fun i => by
      have h1 := helems i.1 i.2
      rw [hd.1] at h1
      obtain ⟨ds, h2, h3⟩ := Option.bind_eq_some_iff.1 (h1.trans (List.getElem?_eq_getElem (by omega)))
      obtain ⟨_, _, hat⟩ := World.cells?_some h2
      obtain ⟨y, h5, h6⟩ := hd.2 H enc n ds _ h3 (fun m hm => hw m (by
        simp only [List.mem_cons, List.mem_append]
        exact .inr (.inl (weightsAll_mem (List.mem_map_of_mem (List.getElem_mem _)) m hm))))
      exact ⟨y, h6, ds, h5, hat⟩
    obtain ⟨f, hf⟩ := Classical.axiomOfChoice hone
    have hlen : (List.ofFn f).length = len := by simp
    have hget : ∀ j y, (List.ofFn f)[j]? = some y → ∃ hj : j < len, y = f ⟨j, hj⟩ := fun j y hy => by
      obtain ⟨hj, rfl⟩ := List.getElem?_eq_some_iff.1 hy
      exact ⟨by simpa using hj, by simp⟩
    refine ⟨List.ofFn f, ⟨_, rfl, some a, cap, by rw [hlen], by rw [hlen]; exact hlc, hcm, fun hp => ?_⟩, fun y hy => ?_, ?_⟩
    · rw [hlen] at hp
      obtain ⟨_, ds0, hk0, hc0⟩ := hf ⟨0, hp⟩
      have hl0 := d.len hk0
      have hz := hc0 0 hs
      rw [List.getElem?_eq_getElem (by omega)] at hz
      have hz' : w.cell? a = some (ds0[0]'(by omega)) := by simpa [Addr.add] using hz
      obtain ⟨b, o, rfl⟩ := spot_none hz'
      refine ⟨b, o, rfl, trivial, World.block_lt_of_cell? w _ hz', fun j y hy => ?_⟩
      obtain ⟨hj, rfl⟩ := hget j y hy
      obtain ⟨_, ds, hk, hcc⟩ := hf ⟨j, hj⟩
      refine ⟨ds, hk, fun i u hu => ?_⟩
      have hi := (List.getElem?_eq_some_iff.1 hu).1
      rw [d.len hk] at hi
      have := hcc i hi
      rw [hu, Go.Deep.add_add, Addr.add_lit] at this
      rwa [← Nat.add_assoc] at this
    · obtain ⟨j, hj⟩ := List.mem_iff_getElem?.1 hy
      obtain ⟨hj, rfl⟩ := hget j y hj
      exact (hf _).1
    · have := hw ((elems.length + rest.length) * P.bytesOf e) (by simp)
      rw [hlen]
      refine Nat.le_trans (Nat.mul_le_mul_right _ ?_) this
      omega
/-- The fields of a struct that is read. -/
theorem opens_fields {H : Type} {enc : TypeId × Value → H} {fuel : Nat} {t : TypeId} {fs : Array Field} {cs : List Value} {x : DataW H × List MemPlace} (ht : P.underlying t = some (.struct fs))
    (h : DataW.trod enc P w 0 (fun _ => true) true fuel t cs = some x) (hw : ∀ n ∈ x.1.weights P t, n ≤ reachBytes) :
    cs.length = P.cellsOf t ∧ ∀ (i : Nat) (f : Field), fs[i]? = some f → ∃ n z, DataW.trod enc P w 0 (fun _ => true) true n f.type ((cs.drop f.offset).take (P.cellsOf f.type)) = some z ∧ ∀ n ∈ z.1.weights P f.type, n ≤ reachBytes := by
  obtain ⟨xs, n, _, rfl, hl, hxl, hi⟩ := DataW.trod_struct ht h
  refine ⟨hl, fun i f hf => ?_⟩
  have hlt : i < xs.length := by rw [hxl]; exact (Array.getElem?_eq_some_iff.1 hf).1
  refine ⟨n, xs[i], (hi i f hf).trans (List.getElem?_eq_getElem hlt), fun m hm => hw m ?_⟩
  simp only [DataW.weights, ht]
  exact DataW.weights_mem_each (j := i) (t := f.type) (d := xs[i].1) (by rw [List.getElem?_map, Array.getElem?_toList, hf]; rfl) (by rw [List.getElem?_map, List.getElem?_eq_getElem hlt]; rfl) m hm
theorem Opens.field {d : Kd α} {good : α → Prop} {H : Type} {enc : TypeId × Value → H} {t : TypeId} {cs : List Value} (hd : Opens P w d good t) {n : Nat} {o : Nat} {z : DataW H × List MemPlace}
    (h : DataW.trod enc P w 0 (fun _ => true) true n t ((cs.drop o).take (P.cellsOf t)) = some z) (hz : ∀ n ∈ z.1.weights P t, n ≤ reachBytes) : ∃ y, d.K w (fun _ => True) y ((cs.drop o).take d.sz) ∧ good y := by
  have := hd.2 H enc n _ z h hz
  rwa [hd.1] at this
/-- An argument. -/
theorem Opens.arg {d : Kd α} {good : α → Prop} {t : TypeId} (hd : Opens P w d good t) {H : Type} {enc : TypeId × Value → H} {v : Value} {x : DataW H} {ps : List MemPlace} (h : DataW.Trod enc P w 0 (fun _ => true) true t v x ps)
    {ts : List TypeId} {ds : List (DataW H)} (hsz : (DataW.weightsEach P ts ds).all (· ≤ reachBytes) = true) {j : Nat} (hj : ts[j]? = some t) (hx : ds[j]? = some x) : ∃ y, d.K w (fun _ => True) y v.cells.toList ∧ good y := by
  obtain ⟨fuel, h⟩ := h
  exact hd.2 H enc fuel _ _ h (fun n hn => by simpa using List.all_eq_true.1 hsz n (DataW.weights_mem_each hj hx n hn))
/-- An argument that is a slice. -/
theorem Opens.arg_slice {d : Kd α} {good : List α → Prop} {t e : TypeId} (hd : Opens P w (Kd.slice d) good t) (ht : P.underlying t = some (.slice e)) {r : Reach} {b0 : Nat} {H : Type} {enc : TypeId × Value → H} {v : Value} {x : DataW H} {ps : List MemPlace} (hv : Value.okWide P w r b0 t v) (h : DataW.Trod enc P w 0 (fun _ => true) true t v x ps)
    {ts : List TypeId} {ds : List (DataW H)} (hsz : (DataW.weightsEach P ts ds).all (· ≤ reachBytes) = true) {j : Nat} (hj : ts[j]? = some t) (hx : ds[j]? = some x) : ∃ y, d.At w (fun _ => True) v y ∧ good y := by
  obtain ⟨a, len, cap, rfl⟩ := okWide_slice ht hv
  obtain ⟨y, ⟨u, hu, h1⟩, h2⟩ := hd.arg h hsz hj hx
  have : Value.slice a len cap = u := by simpa [Value.cells] using hu
  exact ⟨y, by rw [this]; exact h1, h2⟩
end

section
variable {H : Type} {enc : TypeId × Value → H} {P : Program}
/-- The row's last step, of a call that turned nothing that was there. -/
theorem post_of_ch {f : Func} {s : ChangeSpec} {apart fresh handsOn again : Bool} {W W' : World} {args : Array Value} {v : Value} {ds gs : List (DataW H)} {before pa pv : List MemPlace}
    (hW : DataW.Whole enc P f.params.toList s.vars apart W args.toList ds gs before)
    (hres : ∀ (b : Nat) (sp : Nat → Bool) (hd : Bool), DataW.TrodAll enc P W' b sp hd f.resultTypes.toList (v.resultList f.resultTypes.size) (s.fn H (ds ++ gs)).results [])
    (hargs : ∀ sp : Nat → Bool, (∀ p ∈ before, sp p.block = true) → DataW.TrodAll enc P W' 0 sp true f.params.toList args.toList (s.fn H (ds ++ gs)).args pa)
    (hvars : ∀ sp : Nat → Bool, (∀ p ∈ before, sp p.block = true) → DataW.TrodVars enc P W' sp s.vars (s.fn H (ds ++ gs)).vars pv)
    (hps : before = pa ++ pv) (hb : Below W.heap.size W W')
    (hok : ∀ (j : Nat) (t : TypeId) (r : Value), f.resultTypes[j]? = some t → (v.resultList f.resultTypes.size)[j]? = some r → Value.okWide P W' .any 0 t r) :
    s.post enc P f apart fresh handsOn again W args v W' := by
  have hlt : ∀ p ∈ before, p.block < W.heap.size := fun p hp => hW.lt p hp
  have hold : ∀ p ∈ before, (fun b => decide (b < W.heap.size)) p.block = true := fun p hp => by simpa using hlt p hp
  refine ⟨ds, gs, before, [], pa, pv, hW, hres _ _ _, hargs _ hold, hvars _ hold, World.keptBut_mono (fun p hp => ⟨hp, ?_⟩) (hb.frame (· ∈ before)), fun _ => ?_⟩
  · rw [hps, List.mem_append] at hp
    exact Or.inr hp
  · obtain ⟨_, _, _, _, _, hz, hn⟩ := hW
    refine ⟨hok, _, _, ([] ++ pa) ++ pv, ⟨[] ++ pa, pv, trodAll_append (hargs _ (fun _ _ => rfl)) (hres _ _ _), hvars _ (fun _ _ => rfl), rfl, ?_, ?_⟩, ?_⟩
    · intro b off hp
      have hin : MemPlace.cell b off ∈ before := by rw [hps]; simpa using hp
      rw [hb.frozen (hlt _ hin)]
      exact hz b off hin
    · intro ha
      have := hn ha
      rw [hps] at this
      simpa using this
    · intro p hp _
      rw [hps]
      simpa using hp
end
end Go.Proofs.Ytmojbpgabpbacaa
