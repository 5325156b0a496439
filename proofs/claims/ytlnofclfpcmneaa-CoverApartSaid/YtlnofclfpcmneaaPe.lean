/- The cube about a header: models. Own work. -/
import Derived.Test.YtlnofclfpcmneaaFn
namespace Mx
open Go
def stepA (c x : Cu) (h : Hd) : Cu := bif meetOk c x then apartM c x h else c
/-- behind k rules -/
def fixK (l : List Ru) (h : Hd) (c : Cu) : Nat → Cu
  | 0 => c
  | k + 1 => stepA (fixK l h c k) (atL .rule l (k : Nat)).2.1 h
def freeAt (ls : List Ru) (whole c : Cu) (i : Nat) : Cu :=
  bif (!bitM c.2 (i : Nat) || bitM whole.2 (i : Nat)) then c else bif (ls.all fun r => !meetOk (looseC c (i : Nat)) r.2.1) then looseC c (i : Nat) else c
/-- behind k bits -/
def freeK (ls : List Ru) (whole c : Cu) : Nat → Cu
  | 0 => c
  | k + 1 => freeAt ls whole (freeK ls whole c k) k
def wholeM (l : List Ru) (n : Nat) : Cu := canonM (atL .rule l (n : Nat)).2.1
def aboutN (l : List Ru) (h : Hd) (n : Nat) : Cu := freeK (l.take n) (wholeM l n) (fixK l h (wholeM l n) n) 104
def aboutC (l : List Ru) (h : Hd) : Cu := bif lookB l h then aboutN l h (firstN l h) else (0, 0)
def aboutA (l : List Ru) (h : Hd) : Int := bif lookB l h then (atL .rule l (firstN l h : Nat)).2.2 else 0
theorem take_get {l : List Ru} {n k : Nat} (hk : k < n) (hn : n ≤ l.length) : atL .rule ((l.take n).drop 0) (k : Nat) = atL .rule l (k : Nat) := by
  unfold atL
  rw [Int.toNat_natCast, List.drop_zero, List.getD_eq_getElem?_getD, List.getD_eq_getElem?_getD, List.getElem?_take_of_lt hk]
theorem take_len {l : List Ru} {n : Nat} (hn : n ≤ l.length) : ((l.take n).drop 0).length = n := by
  rw [List.drop_zero, List.length_take]; omega
theorem at_rule {l : List Ru} {p : Nat} (h : p < l.length) : atL .rule l (p : Nat) = l[p] := at_get .rule l p h
theorem all_clear {l : List Ru} {n : Nat} (hn : n ≤ l.length) (c : Cu) : ((l.take n).all fun r => !meetOk c r.2.1) = true ↔ ∀ p, p < n → meetOk c (atL .rule l (p : Nat)).2.1 = false := by
  rw [List.all_eq_true]
  constructor
  · intro h p hp
    have := h l[p] (List.mem_take_iff_getElem.2 ⟨p, by omega, rfl⟩)
    rw [at_rule (by omega)]
    simpa using this
  · intro h r hr
    obtain ⟨p, hp, rfl⟩ := List.mem_take_iff_getElem.1 hr
    have := h p (by omega)
    rw [at_rule (by omega)] at this
    rw [this]; rfl
theorem free_skip {ls : List Ru} {whole c : Cu} {i : Nat} (h : (!bitM (freeK ls whole c i).2 (i : Nat) || bitM whole.2 (i : Nat)) = true) : freeK ls whole c (i + 1) = freeK ls whole c i := by
  simp only [freeK, freeAt, h, cond_true]
theorem free_no {l : List Ru} {n p : Nat} {whole c : Cu} {i : Nat} (hn : n ≤ l.length) (hp : p < n) (h : meetOk (looseC (freeK (l.take n) whole c i) (i : Nat)) (atL .rule l (p : Nat)).2.1 = true) : freeK (l.take n) whole c (i + 1) = freeK (l.take n) whole c i := by
  have : ((l.take n).all fun r => !meetOk (looseC (freeK (l.take n) whole c i) (i : Nat)) r.2.1) = false := by
    cases ha : ((l.take n).all fun r => !meetOk (looseC (freeK (l.take n) whole c i) (i : Nat)) r.2.1)
    · rfl
    · rw [(all_clear hn _).1 ha p hp] at h; cases h
  simp only [freeK, freeAt, this, cond_false]
  cases (!bitM (freeK (l.take n) whole c i).2 (i : Nat) || bitM whole.2 (i : Nat)) <;> rfl
theorem free_yes {l : List Ru} {n : Nat} {whole c : Cu} {i : Nat} (hn : n ≤ l.length) (h0 : (!bitM (freeK (l.take n) whole c i).2 (i : Nat) || bitM whole.2 (i : Nat)) = false)
    (h : ∀ p, p < n → meetOk (looseC (freeK (l.take n) whole c i) (i : Nat)) (atL .rule l (p : Nat)).2.1 = false) : freeK (l.take n) whole c (i + 1) = looseC (freeK (l.take n) whole c i) (i : Nat) := by
  simp only [freeK, freeAt, h0, cond_false, (all_clear hn _).2 h, cond_true]
end Mx
