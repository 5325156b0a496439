/- Layer 3: more models and plain laws. Own work. -/
import Derived.Test.YtlnofclfpcmneaaFs
namespace Mx
open Go
def hasC (h : Hd) (c : Cu) : Bool := hasM c.1 c.2 h
def idxN (l : List Cu) (h : Hd) : Nat := l.findIdx (hasC h)
def idxM (l : List Cu) (h : Hd) : Int := bif decide (idxN l h < l.length) then (idxN l h : Int) else -1
def hasL (l : List Cu) (h : Hd) : Bool := l.any (hasC h)
theorem hasL_idx (l : List Cu) (h : Hd) : decide ((0 : Int) ≤ idxM l h) = hasL l h := by
  unfold idxM
  cases hd : decide (idxN l h < l.length)
  · rw [decide_eq_false_iff_not] at hd
    have h1 := List.findIdx_le_length (p := hasC h) (xs := l)
    have h2 : l.findIdx (hasC h) = l.length := by unfold idxN at hd; omega
    have h3 : hasL l h = false := by
      unfold hasL
      rw [List.any_eq_false]
      intro x hx
      have := List.findIdx_eq_length.1 h2 x hx
      rw [this]; simp
    rw [h3]; rfl
  · rw [decide_eq_true_eq] at hd
    have h3 : hasL l h = true := by
      unfold hasL
      rw [List.any_eq_true]
      exact ⟨l[idxN l h], List.getElem_mem _, List.findIdx_getElem (w := hd)⟩
    rw [h3, cond_true]
    simp
theorem hasL_no {l : List Cu} {h : Hd} (hn : ∀ j (hj : j < l.length), hasC h l[j] = false) : hasL l h = false := by
  unfold hasL
  rw [List.any_eq_false]
  intro x hx
  obtain ⟨j, hj, rfl⟩ := List.getElem_of_mem hx
  rw [hn j hj]; simp
theorem hasL_yes {l : List Cu} {h : Hd} {k : Nat} (hk : k < l.length) (hh : hasC h l[k] = true) : hasL l h = true := by
  unfold hasL
  rw [List.any_eq_true]
  exact ⟨l[k], List.getElem_mem _, hh⟩
/-! ### covers, outside -/
def coversM (l : List Cu) (c : Cu) (m : Int) : Bool := leftOk c l m && decide ((leftM c l m).length = 0)
def coversE (l : List Cu) (c : Cu) (m : Int) : Int := leftE c l m
def bestK (ps : List Cu) : Nat → Hd
  | 0 => 0
  | k + 1 => bif decide (k = 0) || lessM (loM (atL .cube ps (k : Nat))) (bestK ps k) then loM (atL .cube ps (k : Nat)) else bestK ps k
def outH (c : Cu) (l : List Cu) (m : Int) : Hd := bestK (leftM c l m) (leftM c l m).length
def outB (c : Cu) (l : List Cu) (m : Int) : Bool := decide (0 < (leftM c l m).length)
def outE (c : Cu) (l : List Cu) (m : Int) : Int := leftE c l m
theorem left_small (c : Cu) (l : List Cu) (m : Int) : (leftM c l m).length ≤ 1000 := by
  cases h : leftOk c l m
  · rw [(left_no h).1]; simp
  · rw [(left_yes h).1]
    unfold leftOk at h
    rw [Bool.and_eq_true, decide_eq_true_eq, List.all_eq_true] at h
    have hb := bound_range m
    match hl : l.length with
    | 0 => show (leftK c l 0).length ≤ 1000; show (1 : Nat) ≤ 1000; omega
    | n + 1 =>
      have := h.2 n (List.mem_range.2 (by omega))
      rw [decide_eq_true_eq] at this
      omega
theorem leftE_eq (c : Cu) (l : List Cu) (m : Int) : leftE c l m = bif leftOk c l m then 0 else 4 := rfl
theorem leftM_no {c : Cu} {l : List Cu} {m : Int} (h : leftOk c l m = false) : leftM c l m = [] := (left_no h).1
/-! ### apart -/
def apartL (l : List Cu) : Bool := (List.range l.length).all fun i => (List.range i).all fun j => !meetOk (atL .cube l (i : Nat)) (atL .cube l (j : Nat))
theorem apart_iff (l : List Cu) : apartL l = true ↔ ∀ i j, i < l.length → j < i → meetOk (atL .cube l (i : Nat)) (atL .cube l (j : Nat)) = false := by
  unfold apartL
  rw [List.all_eq_true]
  constructor
  · intro h i j hi hj
    have := h i (List.mem_range.2 hi)
    rw [List.all_eq_true] at this
    simpa using this j (List.mem_range.2 hj)
  · intro h i hi
    rw [List.all_eq_true]
    intro j hj
    rw [h i j (List.mem_range.1 hi) (List.mem_range.1 hj)]; rfl
theorem apart_no {l : List Cu} {i j : Nat} (hi : i < l.length) (hj : j < i) (h : meetOk (atL .cube l (i : Nat)) (atL .cube l (j : Nat)) = true) : apartL l = false := by
  cases ha : apartL l
  · rfl
  · rw [(apart_iff l).1 ha i j hi hj] at h; cases h
theorem meet_comm (a b : Cu) : meetOk a b = meetOk b a := by
  rw [Bool.eq_iff_iff, meet_iff, meet_iff]
  exact ⟨fun h n hn h1 h2 => (h n hn h2 h1).symm, fun h n hn h1 h2 => (h n hn h2 h1).symm⟩
end Mx
