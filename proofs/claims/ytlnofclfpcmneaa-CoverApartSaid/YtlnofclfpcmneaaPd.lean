/- Lists of rules: models and plain laws. Own work. -/
import Derived.Test.YtlnofclfpcmneaaFm
namespace Mx
open Go
theorem nat_lt {k n : Nat} (h : decide (Int.ofNat k < (n : Int)) = true) : k < n := by
  have : (k : Int) < n := by simpa using h
  omega
theorem nat_ge {k n : Nat} (h : decide (Int.ofNat k < (n : Int)) = false) : n ≤ k := by
  have : ¬ (k : Int) < n := by simpa using h
  omega
theorem num_lt {k : Nat} (h : decide (Int.ofNat k < (104 : Int)) = true) : k < 104 := by
  have : (k : Int) < 104 := by simpa using h
  omega
theorem num_ge {k : Nat} (h : decide (Int.ofNat k < (104 : Int)) = false) : 104 ≤ k := by
  have : ¬ (k : Int) < 104 := by simpa using h
  omega
theorem idx_ok {k n : Nat} (h : k < n) : 0 ≤ Int.ofNat k ∧ Int.ofNat k < (n : Int) := ⟨Int.natCast_nonneg k, by show (k : Int) < n; omega⟩
theorem at_get (e : E) (l : List e.T) (k : Nat) (h : k < l.length) : atL e l (Int.ofNat k) = l[k] := by
  unfold atL
  show l.getD k e.dflt = _
  rw [List.getD_eq_getElem?_getD, List.getElem?_eq_getElem h]; rfl
theorem std1 (u : Lk) {b : Bool} (h : u.1 not true = b) : b = false := by rw [← h]; exact u.e1 not true
def small {α : Type} (l : List α) : Prop := l.length ≤ 4611686018427387904
/-! ### the first one -/
theorem idx_some {α : Type} {p : α → Bool} {l : List α} {k : Nat} (h : k < l.length) (h1 : p l[k] = true) (h2 : ∀ j (hj : j < k), p (l[j]'(by omega)) = false) : l.findIdx p = k :=
  (List.findIdx_eq h).2 ⟨h1, fun j hj => h2 j hj⟩
theorem idx_none {α : Type} {p : α → Bool} {l : List α} (h : ∀ j (hj : j < l.length), p l[j] = false) : l.findIdx p = l.length := by
  rw [List.findIdx_eq_length]
  intro x hx
  obtain ⟨j, hj, rfl⟩ := List.getElem_of_mem hx
  exact h j hj
theorem idx_range {p : Nat → Bool} {n k : Nat} (h : k < n) (h1 : p k = true) (h2 : ∀ j, j < k → p j = false) : (List.range n).findIdx p = k :=
  idx_some (by simpa using h) (by simpa using h1) fun j hj => by simpa using h2 j hj
theorem idx_range_none {p : Nat → Bool} {n : Nat} (h : ∀ j, j < n → p j = false) : (List.range n).findIdx p = n := by
  have := idx_none (p := p) (l := List.range n) fun j hj => by simpa using h j (by simpa using hj)
  simpa using this
/-! ### the chapter's words -/
def valM (h : Hd) (i : Int) : Int := bif bitM h i then 1 else 0
def oddP (c : Cu) (h : Hd) (i : Nat) : Bool := atM c.1 c.2 (i : Nat) == 1 - valM h (i : Nat)
def oddN (c : Cu) (h : Hd) : Nat := (List.range 104).findIdx (oddP c h)
def oddM (c : Cu) (h : Hd) : Int := (oddN c h : Int)
def hasR (h : Hd) (r : Ru) : Bool := hasM r.2.1.1 r.2.1.2 h
def firstN (l : List Ru) (h : Hd) : Nat := l.findIdx (hasR h)
def firstM (l : List Ru) (h : Hd) : Int := bif decide (firstN l h < l.length) then (firstN l h : Int) else -1
def clearM (l : List Ru) (n : Int) (c : Cu) : Bool := (l.take n.toNat).all fun r => !meetOk c r.2.1
def lookR (l : List Ru) (h : Hd) : Ru := l.getD (firstN l h) (0, (0, 0), 0)
def lookB (l : List Ru) (h : Hd) : Bool := decide (firstN l h < l.length)
def apartP (x : Cu) (h : Hd) (i : Nat) : Bool := bitM (canonM x).2 (i : Nat) && (bitM (canonM x).1 (i : Nat) != bitM h (i : Nat))
def apartN (x : Cu) (h : Hd) : Nat := (List.range 104).findIdx (apartP x h)
def apartM (c x : Cu) (h : Hd) : Cu := bif decide (apartN x h < 104) then fixC c (apartN x h : Nat) (bitM h (apartN x h : Nat)) else c
def needsP (l : List Ru) (i : Int) (j : Nat) : Bool := meetOk (atL .rule l (j : Nat)).2.1 (atL .rule l i).2.1
def needsK (l : List Ru) (i : Int) (k : Nat) : List Int := ((List.range k).filter (needsP l i)).map fun (j : Nat) => (j : Int)
def needsIn (l : List Ru) (i : Int) : Bool := decide (0 ≤ i) && decide (i < l.length)
def needsM (l : List Ru) (i : Int) : List Int := bif needsIn l i then needsK l i i.toNat else []
theorem needs_succ (l : List Ru) (i : Int) (k : Nat) : needsK l i (k + 1) = needsK l i k ++ (bif needsP l i k then [(k : Int)] else []) := by
  simp only [needsK, List.range_succ, List.filter_append, List.map_append, List.filter_cons, List.filter_nil]
  cases needsP l i k <;> rfl
theorem needs_len (l : List Ru) (i : Int) (k : Nat) : (needsK l i k).length ≤ k := by
  have := List.length_filter_le (needsP l i) (List.range k)
  simpa [needsK] using this
theorem val_range (h : Hd) (i : Int) : 0 ≤ valM h i ∧ valM h i ≤ 1 := by unfold valM; cases bitM h i <;> simp
theorem find_none {l : List Ru} {h : Hd} (hn : ∀ j (hj : j < l.length), hasR h l[j] = false) : firstN l h = l.length := idx_none hn
theorem first_lt {l : List Ru} {h : Hd} {k : Nat} (hk : k < l.length) (h1 : hasR h l[k] = true) (h2 : ∀ j (hj : j < k), hasR h (l[j]'(by omega)) = false) : firstN l h = k := idx_some hk h1 h2
theorem firstN_le (l : List Ru) (h : Hd) : firstN l h ≤ l.length := List.findIdx_le_length
end Mx
