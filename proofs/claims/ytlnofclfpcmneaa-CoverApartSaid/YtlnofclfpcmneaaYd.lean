/- The frame: slices as arguments, element by element. Own work; any program. -/
import Derived.Test.YtlnofclfpcmneaaYa
import Derived.Deep.Slices
namespace Mx
open Go Go.RowKit Go.WideShapes Go.ChangeShapes Go.Deep
theorem cell_lt {w : World} {a : Addr} {v : Value} (h : w.cell? a = some v) : a.block < w.heap.size := by
  unfold World.cell? at h
  split at h
  · rename_i hh
    exact (Array.getElem?_eq_some_iff.1 hh).1
  · cases h
section
variable {H : Type} {enc : TypeId × Value → H} {P : Program} {w : World} {base : Nat} {spare : Nat → Bool} {held : Bool} {fuel : Nat} {t e u : TypeId} {cs : List Value} {x : DataW H × List MemPlace}
/-- cells that read as an element -/
def Reads1 (enc : TypeId × Value → H) (P : Program) (w : World) (base : Nat) (spare : Nat → Bool) (held : Bool) (e : TypeId) (ee : E) : Prop :=
  ∀ (fuel : Nat) (cs : List Value) (x : DataW H × List MemPlace), DataW.trod enc P w base spare held fuel e cs = some x → ∃ y : ee.T, cs = ee.cells y
theorem open_sl {ee : E} (ht : P.underlying t = some (.slice e)) (hsz : P.cellsOf e = ee.sz) (hel : Reads1 enc P w base spare held e ee) {a : Option Addr} {len cap : Nat} {d : DataW H} {p : List MemPlace}
    (h : DataW.Trod enc P w base spare held t (.slice a len cap) d p) : ∃ l : List ee.T, l.length = len ∧ len ≤ cap ∧ len ≤ maxLen ∧ RowAt (fun b _ => b < w.heap.size) w a ee l := by
  obtain ⟨fuel, hf⟩ := h
  have hpos : 0 < ee.sz := by cases ee <;> simp [E.sz]
  rcases open_slice ht hf with ⟨hcs, _⟩ | ⟨b, l0, c0, m, n, D, Pl, hcs, _, hl, hm, hmm, _, hx⟩
  · simp [Value.cells] at hcs
    obtain ⟨rfl, rfl, rfl⟩ := hcs
    exact ⟨[], rfl, Nat.le_refl _, Nat.zero_le _, fun i hi => by simp at hi⟩
  · simp [Value.cells] at hcs
    obtain ⟨rfl, rfl, rfl⟩ := hcs
    have hlm : len ≤ m := by rw [hmm]; split <;> omega
    have hel' : ∀ i, i < len → ∃ y : ee.T, (∀ k, (hk : k < ee.sz) → w.cell? ((b.add (i * ee.sz)).add k) = some ((ee.cells y)[k]'(by rw [E.cells_length]; exact hk))) := fun i hi => by
      obtain ⟨cs', hc, htr⟩ := hx i (by omega)
      obtain ⟨y, rfl⟩ := hel _ _ _ htr
      obtain ⟨_, _, hcell⟩ := World.cells?_some hc
      refine ⟨y, fun k hk => ?_⟩
      have := hcell k (by omega)
      rw [hsz] at this
      rw [this, List.getElem?_eq_getElem (by rw [E.cells_length]; exact hk)]
    let f : Nat → ee.T := fun i => if hi : i < len then Classical.choose (hel' i hi) else ee.dflt
    refine ⟨(List.range len).map f, by simp, hl, by omega, fun i hi => ?_⟩
    have hi : i < len := by simpa using hi
    have hfi : ((List.range len).map f)[i]'(by simpa using hi) = Classical.choose (hel' i hi) := by simp [f, hi]
    have hspec := Classical.choose_spec (hel' i hi)
    rw [hfi]
    refine ⟨b, rfl, fun k hk => ?_, fun k hk => ?_⟩
    · have h0 := hspec 0 hpos
      have := cell_lt h0
      rw [block_add, block_add] at this
      rw [block_add]
      exact this
    · rw [E.cells_length] at hk
      exact hspec k hk
theorem reads_int (hu : P.underlying e = some (.int .i64)) : Reads1 enc P w base spare held e .int := fun fuel cs x h => by
  obtain ⟨n, rfl, _, _⟩ := DataW.trod_int hu h
  exact ⟨n, rfl⟩
theorem reads_u8 (hu : P.underlying e = some (.int .u8)) : Reads1 enc P w base spare held e .u8 := fun fuel cs x h => by
  obtain ⟨n, rfl, _, _⟩ := DataW.trod_int hu h
  exact ⟨n, rfl⟩
theorem trod_cube {f0 f1 : Field} (hs : P.underlying t = some (.struct #[f0, f1])) (h0 : f0.type = u) (h1 : f1.type = u) (o0 : f0.offset = 0) (o1 : f1.offset = 13)
    (hu : P.underlying u = some (.array 13 e)) (he : P.underlying e = some (.int .u8)) (hc : P.cellsOf e = 1) (ht : P.cellsOf u = 13) (ht2 : P.cellsOf t = 26)
    (h : DataW.trod enc P w base spare held fuel t cs = some x) : ∃ y : Cu, cs = hdCells y.1 ++ hdCells y.2 := by
  obtain ⟨y0, y1, n, h2, hl, h3, h4⟩ := trod_struct2 hs h
  rw [h0, o0, ht] at h3
  rw [h1, o1, ht] at h4
  rw [ht2] at hl
  obtain ⟨a, ha, rfl⟩ := trod_hd hu he hc ht h3
  obtain ⟨b, hb, rfl⟩ := trod_hd hu he hc ht h4
  refine ⟨(a, b), ?_⟩
  rw [← ha, ← hb, List.drop_zero, List.take_of_length_le (l := cs.drop 13) (by rw [List.length_drop]; omega), List.take_append_drop]
theorem reads_cube {f0 f1 : Field} (hs : P.underlying t = some (.struct #[f0, f1])) (h0 : f0.type = u) (h1 : f1.type = u) (o0 : f0.offset = 0) (o1 : f1.offset = 13)
    (hu : P.underlying u = some (.array 13 e)) (he : P.underlying e = some (.int .u8)) (hc : P.cellsOf e = 1) (ht : P.cellsOf u = 13) (ht2 : P.cellsOf t = 26) : Reads1 enc P w base spare held t .cube := fun _ _ _ h => by
  obtain ⟨y, rfl⟩ := trod_cube hs h0 h1 o0 o1 hu he hc ht ht2 h
  exact ⟨y, rfl⟩
theorem reads_rule {r i c : TypeId} {g0 g1 g2 f0 f1 : Field} (hr : P.underlying r = some (.struct #[g0, g1, g2])) (k0 : g0.type = i) (k1 : g1.type = c) (k2 : g2.type = i) (p0 : g0.offset = 0) (p1 : g1.offset = 1) (p2 : g2.offset = 27)
    (hi : P.underlying i = some (.int .i64)) (hci : P.cellsOf i = 1) (hcr : P.cellsOf r = 28)
    (hs : P.underlying c = some (.struct #[f0, f1])) (h0 : f0.type = u) (h1 : f1.type = u) (o0 : f0.offset = 0) (o1 : f1.offset = 13)
    (hu : P.underlying u = some (.array 13 e)) (he : P.underlying e = some (.int .u8)) (hc : P.cellsOf e = 1) (ht : P.cellsOf u = 13) (ht2 : P.cellsOf c = 26) : Reads1 enc P w base spare held r .rule := fun fuel cs x h => by
  obtain ⟨xs, n, _, _, hl, hxl, hg⟩ := DataW.trod_struct hr h
  rw [hcr] at hl
  have e0 := hg 0 g0 rfl
  have e1 := hg 1 g1 rfl
  have e2 := hg 2 g2 rfl
  rw [k0, p0, hci] at e0
  rw [k1, p1, ht2] at e1
  rw [k2, p2, hci] at e2
  have hx3 : xs.length = 3 := hxl
  have g : ∀ j (hj : j < 3), xs[j]? = some (xs[j]'(by omega)) := fun j hj => List.getElem?_eq_getElem _
  rw [g 0 (by omega)] at e0
  rw [g 1 (by omega)] at e1
  rw [g 2 (by omega)] at e2
  obtain ⟨n0, a0, _, _⟩ := DataW.trod_int hi e0
  obtain ⟨y, a1⟩ := trod_cube hs h0 h1 o0 o1 hu he hc ht ht2 e1
  obtain ⟨n2, a2, _, _⟩ := DataW.trod_int hi e2
  refine ⟨(n0, y, n2), ?_⟩
  have hsplit : cs = (cs.drop 0).take 1 ++ ((cs.drop 1).take 26 ++ (cs.drop 27).take 1) := by
    rw [List.drop_zero, List.take_of_length_le (l := cs.drop 27) (by rw [List.length_drop]; omega)]
    have h27 : cs.drop 27 = (cs.drop 1).drop 26 := by rw [List.drop_drop]
    rw [h27, List.take_append_drop, List.take_append_drop]
  rw [hsplit, a0, a1, a2]
  rfl
end
/-- a slice's value, as the evaluator means it -/
theorem rel_slice {ok : Nat → Nat → Prop} {w : World} {V : Env} {e : E} {l : List e.T} {a : Option Addr} {len cap : Nat} (hl : l.length = len) (hc : len ≤ cap) (hr : RowAt ok w a e l) : relV ok w V (.sl e l) (.slice a len cap) :=
  ⟨_, ⟨a, cap, by rw [hl], by omega, hr⟩, rfl⟩
end Mx
