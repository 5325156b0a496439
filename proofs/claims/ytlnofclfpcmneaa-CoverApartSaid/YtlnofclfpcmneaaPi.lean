/- Layer 3: models and plain laws. Own work. -/
import Derived.Test.YtlnofclfpcmneaaFq
namespace Mx
open Go
/-! ### headers in their order -/
def lessM (a b : Hd) : Bool := decide (a.toNat < b.toNat)
theorem less_of_div {a b d : Nat} (h : a / d < b / d) : a < b := by
  refine Decidable.byContradiction fun hn => ?_
  have := Nat.div_le_div_right (c := d) (Nat.le_of_not_lt hn)
  omega
/-- the first bytes, as one number -/
def preB (a : Hd) (k : Nat) : Nat := a.toNat / 2 ^ (104 - 8 * k)
theorem preB_succ (a : Hd) {k : Nat} (hk : k < 13) : preB a (k + 1) = preB a k * 256 + hbn a k := by
  unfold preB hbn
  rw [Nat.shiftRight_eq_div_pow, show 104 - 8 * (k + 1) = 96 - 8 * k by omega, show 104 - 8 * k = (96 - 8 * k) + 8 by omega, Nat.pow_add, ← Nat.div_div_eq_div_mul]
  omega
theorem preB_eq {a b : Hd} : ∀ k, k ≤ 13 → (∀ j, j < k → hbn a j = hbn b j) → preB a k = preB b k
  | 0, _, _ => by
    unfold preB
    rw [Nat.div_eq_of_lt a.isLt, Nat.div_eq_of_lt b.isLt]
  | k + 1, hk, h => by rw [preB_succ a (by omega), preB_succ b (by omega), preB_eq k (by omega) fun j hj => h j (by omega), h k (by omega)]
theorem less_byte {a b : Hd} {k : Nat} (hk : k < 13) (h : ∀ j, j < k → hbn a j = hbn b j) (hne : hbn a k ≠ hbn b k) : lessM a b = decide (hbn a k < hbn b k) := by
  have e := preB_eq k (by omega) h
  have ea := preB_succ a hk
  have eb := preB_succ b hk
  unfold lessM
  rw [Bool.eq_iff_iff, decide_eq_true_eq, decide_eq_true_eq]
  constructor
  · intro hl
    refine Decidable.byContradiction fun hn => ?_
    have : preB b (k + 1) < preB a (k + 1) := by omega
    have := less_of_div this
    omega
  · intro hl
    have : preB a (k + 1) < preB b (k + 1) := by omega
    exact less_of_div this
def preN (a : Hd) (k : Nat) : Nat := a.toNat / 2 ^ (104 - k)
theorem preN_succ (a : Hd) {k : Nat} (hk : k < 104) : preN a (k + 1) = preN a k * 2 + (a.getMsbD k).toNat := by
  unfold preN
  have hb : a.getMsbD k = decide (a.toNat / 2 ^ (103 - k) % 2 = 1) := by
    rw [BitVec.getMsbD]
    simp only [hk, decide_true, Bool.true_and]
    rw [BitVec.getLsbD, Nat.testBit_eq_decide_div_mod_eq]
  rw [hb, show 104 - (k + 1) = 103 - k by omega, show 104 - k = (103 - k) + 1 by omega, Nat.pow_add, ← Nat.div_div_eq_div_mul]
  cases h : decide (a.toNat / 2 ^ (103 - k) % 2 = 1)
  · rw [decide_eq_false_iff_not] at h
    simp
    omega
  · rw [decide_eq_true_eq] at h
    simp
    omega
theorem preN_eq {a b : Hd} : ∀ k, k ≤ 104 → (∀ j, j < k → a.getMsbD j = b.getMsbD j) → preN a k = preN b k
  | 0, _, _ => by
    unfold preN
    rw [Nat.div_eq_of_lt a.isLt, Nat.div_eq_of_lt b.isLt]
  | k + 1, hk, h => by rw [preN_succ a (by omega), preN_succ b (by omega), preN_eq k (by omega) fun j hj => h j (by omega), h k (by omega)]
theorem less_bit {a b : Hd} {k : Nat} (hk : k < 104) (h : ∀ j, j < k → a.getMsbD j = b.getMsbD j) (hne : a.getMsbD k ≠ b.getMsbD k) : lessM a b = b.getMsbD k := by
  have e := preN_eq k (by omega) h
  have ea := preN_succ a hk
  have eb := preN_succ b hk
  unfold lessM
  cases hb : b.getMsbD k
  · have ha : a.getMsbD k = true := by cases ha : a.getMsbD k <;> simp_all
    rw [ha] at ea; rw [hb] at eb
    rw [decide_eq_false_iff_not]
    intro hl
    have : preN b (k + 1) < preN a (k + 1) := by simp at ea eb; omega
    have := less_of_div this
    omega
  · have ha : a.getMsbD k = false := by cases ha : a.getMsbD k <;> simp_all
    rw [ha] at ea; rw [hb] at eb
    rw [decide_eq_true_eq]
    have : preN a (k + 1) < preN b (k + 1) := by simp at ea eb; omega
    exact less_of_div this
theorem less_self (a : Hd) : lessM a a = false := by simp [lessM]
/-! ### what a list leaves -/
def boundM (m : Int) : Int := bif decide (m < 0) then 0 else bif decide (1000 < m) then 1000 else m
theorem bound_range (m : Int) : 0 ≤ boundM m ∧ boundM m ≤ 1000 := by
  unfold boundM
  cases h : decide (m < 0)
  · rw [decide_eq_false_iff_not] at h
    cases h2 : decide (1000 < m)
    · rw [decide_eq_false_iff_not] at h2
      rw [cond_false, cond_false]; omega
    · rw [cond_false, cond_true]; omega
  · rw [cond_true]; omega
def leftK (c : Cu) (l : List Cu) : Nat → List Cu
  | 0 => [canonM c]
  | k + 1 => (leftK c l k).flatMap fun p => minusM p (atL .cube l (k : Nat))
def partK (c : Cu) (l : List Cu) (k j : Nat) : List Cu := ((leftK c l k).take j).flatMap fun p => minusM p (atL .cube l (k : Nat))
theorem part_zero (c : Cu) (l : List Cu) (k : Nat) : partK c l k 0 = [] := rfl
theorem part_succ (c : Cu) (l : List Cu) (k j : Nat) (hj : j < (leftK c l k).length) : partK c l k (j + 1) = partK c l k j ++ minusM (leftK c l k)[j] (atL .cube l (k : Nat)) := by
  unfold partK
  rw [List.take_succ_eq_append_getElem hj, List.flatMap_append]
  simp
theorem part_all (c : Cu) (l : List Cu) (k : Nat) : partK c l k (leftK c l k).length = leftK c l (k + 1) := by
  unfold partK
  rw [List.take_length]; rfl
theorem part_le (c : Cu) (l : List Cu) (k j : Nat) : (partK c l k j).length ≤ (leftK c l (k + 1)).length := by
  rw [← part_all c l k]
  unfold partK
  rw [List.take_length]
  generalize leftK c l k = ps
  rw [← List.take_append_drop j ps]
  rw [List.flatMap_append]
  simp only [List.length_append]
  have : (List.take j (List.take j ps ++ List.drop j ps)) = List.take j ps := by rw [List.take_append_drop]
  rw [this]
  omega
def leftOk (c : Cu) (l : List Cu) (m : Int) : Bool := decide (1 ≤ boundM m) && (List.range l.length).all fun i => decide (((leftK c l (i + 1)).length : Int) ≤ boundM m)
def leftM (c : Cu) (l : List Cu) (m : Int) : List Cu := bif leftOk c l m then leftK c l l.length else []
def leftE (c : Cu) (l : List Cu) (m : Int) : Int := bif leftOk c l m then 0 else 4
theorem left_no {c : Cu} {l : List Cu} {m : Int} (h : leftOk c l m = false) : leftM c l m = [] ∧ leftE c l m = 4 := by
  unfold leftM leftE; rw [h]; exact ⟨rfl, rfl⟩
theorem left_yes {c : Cu} {l : List Cu} {m : Int} (h : leftOk c l m = true) : leftM c l m = leftK c l l.length ∧ leftE c l m = 0 := by
  unfold leftM leftE; rw [h]; exact ⟨rfl, rfl⟩
theorem left_zero {c : Cu} {l : List Cu} {m : Int} (h : boundM m < 1) : leftOk c l m = false := by
  unfold leftOk
  have : decide (1 ≤ boundM m) = false := by rw [decide_eq_false_iff_not]; omega
  rw [this]; rfl
theorem left_over {c : Cu} {l : List Cu} {m : Int} {k j : Nat} (hk : k < l.length) (h : boundM m < (partK c l k j).length) : leftOk c l m = false := by
  unfold leftOk
  rw [Bool.and_eq_false_iff]
  right
  rw [List.all_eq_false]
  refine ⟨k, List.mem_range.2 hk, ?_⟩
  have := part_le c l k j
  rw [decide_eq_true_eq]; omega
theorem left_ok {c : Cu} {l : List Cu} {m : Int} (h0 : 1 ≤ boundM m) (h : ∀ i, i < l.length → ((leftK c l (i + 1)).length : Int) ≤ boundM m) : leftOk c l m = true := by
  unfold leftOk
  rw [Bool.and_eq_true, decide_eq_true_eq, List.all_eq_true]
  exact ⟨h0, fun i hi => decide_eq_true (h i (List.mem_range.1 hi))⟩
end Mx
