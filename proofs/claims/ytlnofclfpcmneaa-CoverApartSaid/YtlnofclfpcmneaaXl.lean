/- '==' of headers and of cubes. Own work; any program. -/
import Derived.Test.YtlnofclfpcmneaaXb
import Derived.ChangeKeysEq
import Derived.Laws.StructEq
namespace Mx
open Go
theorem hd_ext {x y : Hd} (h : ∀ k, k < 13 → hbn x k = hbn y k) : x = y := by
  refine BitVec.eq_of_toNat_eq (Nat.eq_of_testBit_eq fun i => ?_)
  by_cases hi : i < 104
  · have := h (12 - i / 8) (by omega)
    unfold hbn at this
    have hb := congrArg (fun n => n.testBit (i % 8)) this
    simp only [show (256 : Nat) = 2 ^ 8 from rfl, Nat.testBit_mod_two_pow, Nat.testBit_shiftRight] at hb
    have h8 : i % 8 < 8 := Nat.mod_lt _ (by omega)
    simp only [h8, decide_true, Bool.true_and] at hb
    rwa [show 96 - 8 * (12 - i / 8) + i % 8 = i by omega] at hb
  · have hx : x.toNat < 2 ^ i := Nat.lt_of_lt_of_le x.isLt (Nat.pow_le_pow_right (by omega) (by omega))
    have hy : y.toNat < 2 ^ i := Nat.lt_of_lt_of_le y.isLt (Nat.pow_le_pow_right (by omega) (by omega))
    rw [Nat.testBit_lt_two_pow hx, Nat.testBit_lt_two_pow hy]
section
variable {P : Program} (w : World)
theorem run_part_hd {e : TypeId} (he : P.underlying e = some (.int .u8)) (x : Hd) {k : Nat} (hk : k < 13) : (Go.part e (hdCells x).toArray (k * 1)).run P w = .ok (.int .u8 (hbn x k)) w := by
  have hg : (hdCells x)[k]? = some (.int .u8 (hbn x k)) := by
    simp [hdCells, List.getElem?_range hk]
  simp [Go.part, isAgg, run_underlying he, hg]
theorem run_eqItems_hd (d : Nat) {e : TypeId} (he : P.underlying e = some (.int .u8)) (x y : Hd) : ∀ (is : List Nat), (∀ i ∈ is, i < 13) →
    (Op.eqItems (d + 1) e 1 (hdCells x).toArray (hdCells y).toArray is).run P w = .ok (is.all fun k => hbn x k == hbn y k) w
  | [], _ => by simp [Op.eqItems]
  | i :: is, h => by
    have ih := run_eqItems_hd d he x y is (fun j hj => h j (by simp [hj]))
    simp only [Op.eqItems, Sem.run_bind, run_part_hd w he x (h i (by simp)), run_part_hd w he y (h i (by simp)), Result.andThen_ok, run_equalIn_int w d e .u8 .u8 _ _ he]
    have hc : (((hbn x i : Nat) : Int) == ((hbn y i : Nat) : Int)) = (hbn x i == hbn y i) := by
      by_cases h : hbn x i = hbn y i
      · rw [h]; simp only [beq_self_eq_true]
      · have h' : ((hbn x i : Nat) : Int) ≠ ((hbn y i : Nat) : Int) := fun e => h (by omega)
        rw [beq_eq_false_iff_ne.2 h, beq_eq_false_iff_ne.2 h']
    rw [hc, List.all_cons]
    by_cases hh : hbn x i = hbn y i
    · rw [hh]
      simp only [beq_self_eq_true, Bool.not_true, Bool.false_eq_true, if_false, Bool.true_and]
      exact ih
    · have : (hbn x i == hbn y i) = false := by simpa using hh
      rw [this]
      simp only [Bool.not_false, if_true, Bool.false_and, Sem.run_pure]
theorem run_equalIn_hd (d : Nat) {t e : TypeId} {i : TypeInfo} (hu : P.underlying t = some (.array 13 e)) (he : P.underlying e = some (.int .u8)) (hi : P.info? e = some i) (hc : P.cellsOf e = 1) (x y : Hd) :
    (Op.equalIn (d + 2) t (.agg (hdCells x).toArray) (.agg (hdCells y).toArray)).run P w = .ok (x == y) w := by
  rw [run_equalIn_array w (d + 1) _ _ hu hi, hc, run_eqItems_hd w d he x y _ (fun i hi => List.mem_range.1 hi)]
  congr 1
  cases hxy : (x == y) with
  | true =>
    obtain rfl : x = y := by simpa using hxy
    simp
  | false =>
    have hne : x ≠ y := by simpa using hxy
    rw [List.all_eq_false]
    refine Classical.byContradiction fun hcon => hne (hd_ext fun k hk => ?_)
    refine Classical.byContradiction fun hkk => hcon ⟨k, List.mem_range.2 hk, ?_⟩
    simpa using hkk
theorem eqAt_hd {t e : TypeId} {i : TypeInfo} (hu : P.underlying t = some (.array 13 e)) (he : P.underlying e = some (.int .u8)) (hi : P.info? e = some i) (hc : P.cellsOf e = 1) (hg : P.eqGuardType P.depth t = false) : Mx.EqAt P t (.hd 0) := by
  intro x y hx hy a b w
  cases x <;> simp only [skel, Bool.false_eq_true] at hx
  cases y <;> simp only [skel, Bool.false_eq_true] at hy
  have h := fun x y => run_equalIn_hd (P := P) w 9998 hu he hi hc x y
  constructor <;> simp only [flat, eqv, Sem.run_bind, run_eqGuard_agg w _ t a b _ _ hg, Result.andThen_ok, run_eql_struct, run_neq_struct, h]
theorem run_equalIn_cube (d : Nat) {t u e : TypeId} {i j : TypeInfo} (hu : P.underlying t = some (.struct (P.fieldsOf t))) (hp : P.stoodInHeld t = false) (hf : (P.fieldsOf t).toList.map (fun f => (f.name != "_", f.type, f.offset)) = [(true, u, 0), (true, u, 13)])
    (hu' : P.underlying u = some (.array 13 e)) (he : P.underlying e = some (.int .u8)) (hi : P.info? e = some i) (hc : P.cellsOf e = 1) (hj : P.info? u = some j) (hs : j.size = 13) (x y : Cu) :
    (Op.equalIn (d + 3) t (.agg (hdCells x.1 ++ hdCells x.2).toArray) (.agg (hdCells y.1 ++ hdCells y.2).toArray)).run P w = .ok (x.1 == y.1 && x.2 == y.2) w := by
  rw [run_equalIn_struct w (d + 2) t _ _ hu hp]
  generalize (P.fieldsOf t).toList = fs at hf
  rcases fs with _ | ⟨f, _ | ⟨g, _ | ⟨_, _⟩⟩⟩
  · simp at hf
  · simp at hf
  · simp only [List.map_cons, List.map_nil, List.cons.injEq, Prod.mk.injEq, and_true] at hf
    obtain ⟨⟨f1, f2, f3⟩, g1, g2, g3⟩ := hf
    have h1 : ∀ x : Cu, (Go.part u (hdCells x.1 ++ hdCells x.2).toArray 0).run P w = .ok (.agg (hdCells x.1).toArray) w := fun x => by
      have h0 : (hdCells x.1 ++ hdCells x.2).take 13 = hdCells x.1 := List.take_left' (hdCells_length _)
      simp [Go.part, isAgg, run_underlying hu', Go.sizeOf, typeInfo, hj, hs, h0]
    have h2 : ∀ x : Cu, (Go.part u (hdCells x.1 ++ hdCells x.2).toArray 13).run P w = .ok (.agg (hdCells x.2).toArray) w := fun x => by
      have h0 : ((hdCells x.1 ++ hdCells x.2).drop 13).take 13 = hdCells x.2 := by
        rw [List.drop_left' (hdCells_length _), List.take_of_length_le (by rw [hdCells_length]; omega)]
      simp [Go.part, isAgg, run_underlying hu', Go.sizeOf, typeInfo, hj, hs, h0]
    have hE := fun x y => run_equalIn_hd (P := P) w d hu' he hi hc x y
    have f1' : f.name ≠ "_" := by simpa using f1
    have g1' : g.name ≠ "_" := by simpa using g1
    simp only [Op.eqFields, if_pos f1', if_pos g1', f2, f3, g2, g3, Sem.run_bind, Sem.run_ite, h1, h2, Result.andThen_ok, hE, Sem.run_pure]
    cases (x.1 == y.1) <;> cases (x.2 == y.2) <;> simp
  · simp at hf
theorem eqAt_cube {t u e : TypeId} {i j : TypeInfo} (hu : P.underlying t = some (.struct (P.fieldsOf t))) (hp : P.stoodInHeld t = false) (hf : (P.fieldsOf t).toList.map (fun f => (f.name != "_", f.type, f.offset)) = [(true, u, 0), (true, u, 13)])
    (hu' : P.underlying u = some (.array 13 e)) (he : P.underlying e = some (.int .u8)) (hi : P.info? e = some i) (hc : P.cellsOf e = 1) (hj : P.info? u = some j) (hs : j.size = 13) (hg : P.eqGuardType P.depth t = false) : Mx.EqAt P t (.pr (.hd 0) (.hd 0)) := by
  intro x y hx hy a b w
  cases x <;> simp only [skel, Bool.false_eq_true, Bool.and_eq_true] at hx
  cases y <;> simp only [skel, Bool.false_eq_true, Bool.and_eq_true] at hy
  obtain ⟨x1, x2⟩ := hx
  obtain ⟨y1, y2⟩ := hy
  rename_i p q p' q'
  cases p <;> simp only [skel, Bool.false_eq_true] at x1
  cases q <;> simp only [skel, Bool.false_eq_true] at x2
  cases p' <;> simp only [skel, Bool.false_eq_true] at y1
  cases q' <;> simp only [skel, Bool.false_eq_true] at y2
  have h := fun x y => run_equalIn_cube (P := P) w 9997 hu hp hf hu' he hi hc hj hs x y
  rename_i a1 a2 b1 b2
  have h' := h (a1, a2) (b1, b2)
  simp only at h'
  constructor <;> simp only [flat, eqv, Sem.run_bind, run_eqGuard_agg w _ t a b _ _ hg, Result.andThen_ok, run_eql_struct, run_neq_struct, h']
end
end Mx
