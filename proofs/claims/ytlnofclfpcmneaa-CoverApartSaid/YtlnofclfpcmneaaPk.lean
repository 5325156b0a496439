/- Layer 3: what the laws say, plain. Own work. -/
import Derived.Test.YtlnofclfpcmneaaFu
namespace Mx
open Go
theorem hits_flat (ps : List Cu) (b : Cu) (h : Hd) : hits (ps.flatMap fun p => minusM p b) h = bif hasM b.1 b.2 h then 0 else hits ps h := by
  induction ps with
  | nil => cases hasM b.1 b.2 h <;> rfl
  | cons p ps ih =>
    have e : hits ((p :: ps).flatMap fun p => minusM p b) h = hits (minusM p b) h + hits (ps.flatMap fun p => minusM p b) h := by
      rw [List.flatMap_cons]
      simp only [hits, List.countP_append]
    rw [e, ih, minus_count]
    have e2 : hits (p :: ps) h = one (hasM p.1 p.2 h) + hits ps h := by
      simp only [hits, List.countP_cons, one]
      omega
    rw [e2]
    cases hasM b.1 b.2 h <;> cases hasM p.1 p.2 h <;> simp [one]
theorem left_hits (c : Cu) (l : List Cu) (h : Hd) : ∀ k, k ≤ l.length → hits (leftK c l k) h = one (hasM c.1 c.2 h && !hasL (l.take k) h)
  | 0, _ => by
    show hits [canonM c] h = _
    simp only [hits, List.countP_cons, List.countP_nil, has_canon, List.take_zero, hasL, List.any_nil, one]
    cases hasM c.1 c.2 h <;> rfl
  | k + 1, hk => by
    have e : hits (leftK c l (k + 1)) h = bif hasM (atL .cube l (k : Nat)).1 (atL .cube l (k : Nat)).2 h then 0 else hits (leftK c l k) h := hits_flat _ _ _
    have hat : atL .cube l ((k : Nat) : Int) = l[k] := at_get .cube l k (by omega)
    rw [e, left_hits c l h k (by omega), hat, List.take_succ_eq_append_getElem (by omega)]
    simp only [hasL, List.any_append, List.any_cons, List.any_nil, Bool.or_false, hasC]
    cases hasM l[k].1 l[k].2 h <;> cases hasM c.1 c.2 h <;> cases (l.take k).any fun c => hasM c.1 c.2 h <;> simp [one]
theorem pieces_hits {c : Cu} {l : List Cu} {m : Int} (ho : leftOk c l m = true) (h : Hd) : hits (leftM c l m) h = one (hasM c.1 c.2 h && !hasL l h) := by
  rw [(left_yes ho).1, left_hits c l h l.length (Nat.le_refl _), List.take_length]
theorem best_mem (ps : List Cu) : ∀ k, k ≤ ps.length → 0 < k → ∃ j, ∃ hj : j < ps.length, bestK ps k = loM ps[j]
  | 0, _, h => by omega
  | k + 1, hk, _ => by
    have hat : atL .cube ps ((k : Nat) : Int) = ps[k] := at_get .cube ps k (by omega)
    simp only [bestK]
    cases hc : (decide (k = 0) || lessM (loM (atL .cube ps (k : Nat))) (bestK ps k))
    · rw [cond_false]
      have h0 : ¬ k = 0 := by
        intro e
        rw [decide_eq_true e, Bool.true_or] at hc; cases hc
      exact best_mem ps k (by omega) (by omega)
    · rw [cond_true, hat]
      exact ⟨k, by omega, rfl⟩
theorem out_in {c : Cu} {l : List Cu} {m : Int} (ho : leftOk c l m = true) (hb : outB c l m = true) : hasM c.1 c.2 (outH c l m) = true ∧ hasL l (outH c l m) = false := by
  have hp : 0 < (leftM c l m).length := by simpa [outB] using hb
  obtain ⟨j, hj, e⟩ := best_mem (leftM c l m) _ (Nat.le_refl _) hp
  have hh : 0 < hits (leftM c l m) (outH c l m) := by
    unfold hits
    rw [List.countP_pos_iff]
    refine ⟨(leftM c l m)[j], List.getElem_mem _, ?_⟩
    show hasM _ _ (bestK _ _) = true
    rw [e]; exact has_lo _
  rw [pieces_hits ho] at hh
  revert hh
  cases hasM c.1 c.2 (outH c l m) <;> cases hasL l (outH c l m) <;> simp [one]
theorem apart_cons {c : Cu} {l : List Cu} (h : apartL (c :: l) = true) : apartL l = true ∧ ∀ x ∈ l, meetOk x c = false := by
  rw [apart_iff] at h
  have hat : ∀ i, i < l.length → atL .cube (c :: l) ((i + 1 : Nat) : Int) = atL .cube l (i : Nat) := fun i hi => rfl
  constructor
  · rw [apart_iff]
    intro i j hi hj
    have := h (i + 1) (j + 1) (by simp; omega) (by omega)
    rwa [hat i hi, hat j (by omega)] at this
  · intro x hx
    obtain ⟨i, hi, rfl⟩ := List.getElem_of_mem hx
    have := h (i + 1) 0 (by simp; omega) (by omega)
    rw [hat i hi, show atL .cube l ((i : Nat) : Int) = l[i] from at_get .cube l i hi] at this
    exact this
theorem apart_hits (h : Hd) : ∀ l : List Cu, apartL l = true → hits l h ≤ 1
  | [], _ => by simp [hits]
  | c :: l, ha => by
    obtain ⟨h1, h2⟩ := apart_cons ha
    have ih := apart_hits h l h1
    simp only [hits, List.countP_cons] at ih ⊢
    cases hc : hasM c.1 c.2 h
    · simpa using ih
    · have : l.countP (fun c => hasM c.1 c.2 h) = 0 := by
        rw [List.countP_eq_zero]
        intro x hx hxh
        have := h2 x hx
        rw [meet_has' hxh hc] at this; cases this
      rw [this]; simp
end Mx
