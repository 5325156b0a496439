/- As great as can be; put ahead of all others. Own work. -/
import Derived.Test.YtlnofclfpcmneaaPg
namespace Mx
open Go
theorem free_less (ls : List Ru) (whole c : Cu) (k : Nat) : ∀ m, k ≤ m → m ≤ 104 → ∀ j, j < 104 → (freeK ls whole c m).2.getMsbD j = true → (freeK ls whole c k).2.getMsbD j = true ∧ (freeK ls whole c k).1.getMsbD j = (freeK ls whole c m).1.getMsbD j
  | 0, hk, _ => fun j _ hm => by
    obtain rfl : k = 0 := by omega
    exact ⟨hm, rfl⟩
  | m + 1, hk, hle => fun j hj hm => by
    by_cases e : k = m + 1
    · subst e; exact ⟨hm, rfl⟩
    · have ih := free_less ls whole c k m (by omega) (by omega) j hj
      simp only [freeK, freeAt] at hm ⊢
      generalize freeK ls whole c m = d at ih hm
      revert hm
      cases (!bitM d.2 (m : Nat) || bitM whole.2 (m : Nat))
      · rw [cond_false]
        cases (ls.all fun r => !meetOk (looseC d (m : Nat)) r.2.1)
        · exact ih
        · rw [cond_true, loose_put d (by omega)]
          simp only
          rw [put_msb _ (by omega) hj, put_msb _ (by omega) hj, canon1]
          by_cases e : j = m
          · rw [if_pos e]; intro h; cases h
          · rw [if_neg e, if_neg e]
            intro h
            obtain ⟨e1, e2⟩ := ih h
            exact ⟨e1, by rw [e2, h, Bool.and_true]⟩
      · exact ih
theorem about_most {l : List Ru} {h : Hd} {i : Nat} (hb : lookB l h = true) (hi : i < 104) (h1 : (aboutC l h).2.getMsbD i = true) (h2 : (wholeM l (firstN l h)).2.getMsbD i = false) : clearM l (firstN l h : Nat) (setC (aboutC l h) (i : Nat) 2) = false := by
  obtain ⟨hn, f1, f2, hf⟩ := first_found hb
  have hK := fix_kept hn f1 f2 _ (Nat.le_refl _)
  have hc : aboutC l h = freeK (l.take (firstN l h)) (wholeM l (firstN l h)) (fixK l h (wholeM l (firstN l h)) (firstN l h)) 104 := by
    unfold aboutC; rw [hb]; rfl
  have hd := free_kept (Nat.le_of_lt hn) hK i (by omega)
  have hless := free_less (l.take (firstN l h)) (wholeM l (firstN l h)) (fixK l h (wholeM l (firstN l h)) (firstN l h)) i 104 (by omega) (Nat.le_refl _)
  have hless' := free_less (l.take (firstN l h)) (wholeM l (firstN l h)) (fixK l h (wholeM l (firstN l h)) (firstN l h)) (i + 1) 104 (by omega) (Nat.le_refl _) i hi
  rw [← hc] at hless hless'
  have hstep : freeK (l.take (firstN l h)) (wholeM l (firstN l h)) (fixK l h (wholeM l (firstN l h)) (firstN l h)) (i + 1) = freeAt (l.take (firstN l h)) (wholeM l (firstN l h)) (freeK (l.take (firstN l h)) (wholeM l (firstN l h)) (fixK l h (wholeM l (firstN l h)) (firstN l h)) i) i := rfl
  generalize freeK (l.take (firstN l h)) (wholeM l (firstN l h)) (fixK l h (wholeM l (firstN l h)) (firstN l h)) i = d at hd hless hstep
  have hdi : d.2.getMsbD i = true := (hless i hi h1).1
  have h0 : (!bitM d.2 (i : Nat) || bitM (wholeM l (firstN l h)).2 (i : Nat)) = false := by rw [bit_nat _ hi, bit_nat _ hi, hdi, h2]; rfl
  cases hcl : clearM l (firstN l h : Nat) (setC (aboutC l h) (i : Nat) 2)
  · rfl
  · exfalso
    have hall : ((l.take (firstN l h)).all fun r => !meetOk (looseC d (i : Nat)) r.2.1) = true := by
      unfold clearM at hcl
      rw [Int.toNat_natCast] at hcl
      rw [List.all_eq_true] at hcl ⊢
      intro r hr
      have := hcl r hr
      cases hm : meetOk (looseC d (i : Nat)) r.2.1
      · rfl
      · rw [loose_setC hd.canon hi] at hm
        have : meetOk (setC (aboutC l h) (i : Nat) 2) r.2.1 = true := meet_mono (fun j hj hcj => by
          obtain ⟨b1, b2⟩ := set_two (c := aboutC l h) hi hj
          obtain ⟨d1, d2⟩ := set_two (c := d) hi hj
          rw [b2] at hcj
          by_cases e : j = i
          · rw [if_pos e] at hcj; cases hcj
          · rw [if_neg e] at hcj
            obtain ⟨e1, e2⟩ := hless j hj hcj
            rw [d1, d2, b1, if_neg e, if_neg e, if_neg e]
            exact ⟨e1, e2⟩) hm
        simp_all
    have hfree : freeAt (l.take (firstN l h)) (wholeM l (firstN l h)) d i = looseC d (i : Nat) := by simp only [freeAt, h0, cond_false, hall, cond_true]
    obtain ⟨hm2, _⟩ := hless' h1
    rw [hstep, hfree, loose_put d hi] at hm2
    simp only at hm2
    rw [put_msb _ hi hi, if_pos rfl] at hm2
    cases hm2
theorem about_clear {l : List Ru} {h : Hd} (hb : lookB l h = true) : clearM l (firstN l h : Nat) (aboutC l h) = true := by
  obtain ⟨hn, _⟩ := first_found hb
  unfold clearM
  rw [Int.toNat_natCast]
  exact (all_clear (Nat.le_of_lt hn) _).2 (about_kept hb).off
theorem about_within {l : List Ru} {h : Hd} (hb : lookB l h = true) : withinM (aboutC l h) (atL .rule l (firstN l h : Nat)).2.1 = true :=
  (within_bits _ _).2 fun n hn hm => by
    obtain ⟨e1, e2⟩ := (about_kept hb).win n hn hm
    refine ⟨e1, ?_⟩
    rw [e2, wholeM, canon1, hm, Bool.and_true]
theorem first_cons {c : Cu} {a : Int} {l : List Ru} {g : Hd} (hg : hasM c.1 c.2 g = true) : firstN ((0, c, a) :: l) g = 0 := by
  unfold firstN
  rw [List.findIdx_cons]
  have : hasR g (0, c, a) = true := hg
  rw [this]; rfl
theorem about_twice {c : Cu} {a : Int} {l : List Ru} {g : Hd} (hc : isCanon c) (hg : hasM c.1 c.2 g = true) :
    aboutC ((0, c, a) :: l) g = c ∧ aboutA ((0, c, a) :: l) g = a ∧ lookB ((0, c, a) :: l) g = true ∧ lookR ((0, c, a) :: l) g = (0, c, a) := by
  have h0 := first_cons (a := a) (l := l) hg
  have hb : lookB ((0, c, a) :: l) g = true := by unfold lookB; rw [h0]; simp
  have hw : wholeM ((0, c, a) :: l) 0 = c := canon_of hc
  refine ⟨?_, ?_, hb, ?_⟩
  · unfold aboutC
    rw [hb, cond_true, h0, aboutN, hw]
    have : ∀ i, freeK (List.take 0 ((0, c, a) :: l)) c c i = c := by
      intro i
      induction i with
      | zero => rfl
      | succ i ih =>
        simp only [freeK, ih, freeAt]
        cases bitM c.2 (i : Nat) <;> rfl
    exact this 104
  · unfold aboutA
    rw [hb, h0]; rfl
  · unfold lookR
    rw [h0]; rfl
end Mx
