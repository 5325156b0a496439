/- The plain laws of layer 15: what may be kept is safe, and as great as can be. Own work. -/
import Derived.Test.YtlnofclfpcmneaaFp
namespace Mx
open Go
/-- meeting, bit by bit -/
theorem meet_iff (a b : Cu) : meetOk a b = true ↔ ∀ n, n < 104 → a.2.getMsbD n = true → b.2.getMsbD n = true → a.1.getMsbD n = b.1.getMsbD n := by
  obtain ⟨v0, m0⟩ := a
  obtain ⟨v1, m1⟩ := b
  rw [meet_bits]
  refine forall_congr' fun n => forall_congr' fun _ => ?_
  simp only
  cases v0.getMsbD n <;> cases m0.getMsbD n <;> cases v1.getMsbD n <;> cases m1.getMsbD n <;> simp
theorem meet_has' {a b : Cu} {x : Hd} (ha : hasM a.1 a.2 x = true) (hb : hasM b.1 b.2 x = true) : meetOk a b = true := by
  rw [has_bits] at ha hb
  exact (meet_iff _ _).2 fun n hn h1 h2 => (ha n hn h1).trans (hb n hn h2).symm
/-- fewer bits fixed, all of them alike: it meets more -/
theorem meet_mono {a b x : Cu} (h : ∀ n, n < 104 → b.2.getMsbD n = true → a.2.getMsbD n = true ∧ a.1.getMsbD n = b.1.getMsbD n) (hm : meetOk a x = true) : meetOk b x = true := by
  rw [meet_iff] at hm ⊢
  intro n hn h1 h2
  obtain ⟨h3, h4⟩ := h n hn h1
  rw [← h4]; exact hm n hn h3 h2
theorem odd_apart (x : Cu) (h : Hd) {i : Nat} (hi : i < 104) : oddP x h i = apartP x h i := by
  unfold oddP apartP atM valM
  rw [bit_nat _ hi, bit_nat _ hi, bit_nat _ hi, bit_nat _ hi, bit_nat _ hi, canon1, canon2]
  cases x.1.getMsbD i <;> cases x.2.getMsbD i <;> cases h.getMsbD i <;> rfl
theorem findIdx_congr {α : Type} {p q : α → Bool} : ∀ {l : List α}, (∀ x ∈ l, p x = q x) → l.findIdx p = l.findIdx q
  | [], _ => rfl
  | x :: l, h => by
    rw [List.findIdx_cons, List.findIdx_cons, h x (by simp), findIdx_congr (l := l) fun y hy => h y (by simp [hy])]
theorem odd_eq (x : Cu) (h : Hd) : oddN x h = apartN x h := findIdx_congr fun i hi => odd_apart x h (List.mem_range.1 hi)
theorem range_found {p : Nat → Bool} {n : Nat} (h : (List.range n).findIdx p < n) : p ((List.range n).findIdx p) = true := by
  have hl : (List.range n).findIdx p < (List.range n).length := by simpa using h
  have := List.findIdx_getElem (p := p) (xs := List.range n) (w := hl)
  simpa using this
theorem range_not {p : Nat → Bool} {n : Nat} (h : ¬ (List.range n).findIdx p < n) : ∀ i, i < n → p i = false := by
  intro i hi
  have h1 := List.findIdx_le_length (p := p) (xs := List.range n)
  have h2 : (List.range n).findIdx p = (List.range n).length := by
    simp only [List.length_range] at h1 ⊢
    omega
  exact List.findIdx_eq_length.1 h2 i (List.mem_range.2 hi)
theorem apart_spec (x : Cu) (h : Hd) : (apartN x h < 104 → x.2.getMsbD (apartN x h) = true ∧ x.1.getMsbD (apartN x h) ≠ h.getMsbD (apartN x h)) ∧ (hasM x.1 x.2 h = false → apartN x h < 104) := by
  constructor
  · intro hlt
    have hp : apartP x h (apartN x h) = true := range_found hlt
    unfold apartP at hp
    rw [bit_nat _ hlt, bit_nat _ hlt, bit_nat _ hlt, canon1, canon2] at hp
    cases e1 : x.2.getMsbD (apartN x h) <;> simp_all
  · intro hno
    refine Decidable.byContradiction fun hge => ?_
    have hall : ∀ i, i < 104 → apartP x h i = false := range_not hge
    have : hasM x.1 x.2 h = true := (has_bits _ _ _).2 fun i hi hm => by
      have := hall i hi
      unfold apartP at this
      rw [bit_nat _ hi, bit_nat _ hi, bit_nat _ hi, canon1, canon2, hm] at this
      simpa using this
    rw [hno] at this; cases this
theorem set_two {c : Cu} {i n : Nat} (hi : i < 104) (hn : n < 104) : (setC c (i : Nat) 2).1.getMsbD n = (if n = i then false else c.1.getMsbD n) ∧ (setC c (i : Nat) 2).2.getMsbD n = (if n = i then false else c.2.getMsbD n) := by
  unfold setC setV setK
  simp only
  rw [put_msb _ hi hn, put_msb _ hi hn]
  exact ⟨rfl, rfl⟩
theorem loose_setC {c : Cu} (hc : isCanon c) {i : Nat} (hi : i < 104) : looseC c (i : Nat) = setC c (i : Nat) 2 := by
  rw [loose_set c hi, canon_of hc, setC]
theorem loose_is (c : Cu) {i : Nat} (hi : i < 104) : isCanon (looseC c (i : Nat)) := fun n hn h => by
  rw [loose_put c hi] at h ⊢
  simp only at h ⊢
  rw [put_msb _ hi hn] at h ⊢
  by_cases e : n = i
  · rw [if_pos e] at h; cases h
  · rw [if_neg e] at h ⊢
    rw [canon1, Bool.and_eq_true] at h
    exact h.2
theorem step_eq {c : Cu} (hc : isCanon c) (x : Cu) (h : Hd) : rstepA c x h = stepA c x h := by
  unfold rstepA stepA
  cases meetOk c x
  · rfl
  rw [cond_true, cond_true, apartM, oddM, odd_eq]
  by_cases hlt : apartN x h < 104
  · have : decide (apartN x h < 104) = true := by simpa using hlt
    rw [this, cond_true, fix_set c hlt, canon_of hc, setC]
    have : (bif bitM h (apartN x h : Nat) then 1 else 0 : Int) = valM h (apartN x h : Nat) := rfl
    rw [this]
  · have hf : decide (apartN x h < 104) = false := by simpa using hlt
    have hge : decide (((apartN x h : Nat) : Int) < 104) = false := by rw [decide_eq_false_iff_not]; omega
    have hb : ∀ y : Hd, bitM y (apartN x h : Nat) = false := fun y => by unfold bitM; rw [hge]; simp
    have hfl : ∀ y : Hd, flipM y (apartN x h : Nat) = y := fun y => by unfold flipM; rw [hge]; simp
    have hp : ∀ (y : Hd) (b : Bool), putM y (apartN x h : Nat) b = y := fun y b => by
      unfold putM
      rw [hfl]
      cases bitM y (apartN x h : Nat) == b <;> rfl
    rw [hf, cond_false, setC, setV, setK, hp, hp]
/-- what the cube is like behind the first k rules -/
structure Kept (l : List Ru) (h : Hd) (n k : Nat) (c : Cu) : Prop where
  canon : isCanon c
  has : hasM c.1 c.2 h = true
  win : ∀ j, j < 104 → (wholeM l n).2.getMsbD j = true → c.2.getMsbD j = true ∧ c.1.getMsbD j = (wholeM l n).1.getMsbD j
  off : ∀ p, p < k → meetOk c (atL .rule l (p : Nat)).2.1 = false
theorem fix_kept {l : List Ru} {h : Hd} {n : Nat} (hn : n < l.length) (h1 : hasR h l[n] = true) (h2 : ∀ j (hj : j < n), hasR h (l[j]'(by omega)) = false) : ∀ k, k ≤ n → Kept l h n k (fixK l h (wholeM l n) k)
  | 0, _ => ⟨canon_is _, by
      show hasM (canonM (atL .rule l (n : Nat)).2.1).1 (canonM (atL .rule l (n : Nat)).2.1).2 h = true
      rw [has_canon, at_rule hn]; exact h1, fun j _ hj => ⟨hj, rfl⟩, fun p hp => by omega⟩
  | k + 1, hk => by
    have ih := fix_kept hn h1 h2 k (by omega)
    have hno : hasM (atL .rule l (k : Nat)).2.1.1 (atL .rule l (k : Nat)).2.1.2 h = false := by rw [at_rule (by omega)]; exact h2 k (by omega)
    generalize hc : fixK l h (wholeM l n) k = c at ih
    generalize hx : (atL .rule l (k : Nat)).2.1 = x at hno
    have hs : fixK l h (wholeM l n) (k + 1) = stepA c x h := by rw [← hc, ← hx]; rfl
    rw [hs, stepA]
    cases hm : meetOk c x
    · rw [cond_false]
      refine ⟨ih.canon, ih.has, ih.win, fun p hp => ?_⟩
      by_cases e : p = k
      · subst e; rw [hx]; exact hm
      · exact ih.off p (by omega)
    · rw [cond_true, apartM]
      obtain ⟨ha, hb⟩ := apart_spec x h
      have hlt := hb hno
      obtain ⟨hx2, hx1⟩ := ha hlt
      have : decide (apartN x h < 104) = true := by simpa using hlt
      rw [this, cond_true]
      generalize apartN x h = i at hlt hx2 hx1
      have hfree : c.2.getMsbD i = false := by
        cases e : c.2.getMsbD i
        · rfl
        · have e1 := (meet_iff _ _).1 hm i hlt e hx2
          have e2 := (has_bits _ _ _).1 ih.has i hlt e
          exact (hx1 (by rw [← e1, e2])).elim
      have hbits : ∀ j, j < 104 → (fixC c (i : Nat) (bitM h (i : Nat))).1.getMsbD j = (if j = i then h.getMsbD i else c.1.getMsbD j) ∧ (fixC c (i : Nat) (bitM h (i : Nat))).2.getMsbD j = (if j = i then true else c.2.getMsbD j) := fun j hj => by
        rw [fix_put c hlt, canon_of ih.canon]
        simp only
        rw [put_msb _ hlt hj, put_msb _ hlt hj, bit_nat h hlt]
        exact ⟨rfl, rfl⟩
      refine ⟨fix_is _ hlt _, ?_, fun j hj hw => ?_, fun p hp => ?_⟩
      · rw [has_fix c hlt _ h hfree, ih.has, bit_nat h hlt]; simp
      · obtain ⟨e1, e2⟩ := ih.win j hj hw
        have hne : j ≠ i := fun e => by rw [e, hfree] at e1; cases e1
        obtain ⟨b1, b2⟩ := hbits j hj
        rw [b1, b2, if_neg hne, if_neg hne]
        exact ⟨e1, e2⟩
      · by_cases e : p = k
        · subst e
          rw [hx]
          cases hmm : meetOk (fixC c (i : Nat) (bitM h (i : Nat))) x
          · rfl
          · obtain ⟨b1, b2⟩ := hbits i hlt
            rw [if_pos rfl] at b1 b2
            have := (meet_iff _ _).1 hmm i hlt b2 hx2
            rw [b1] at this
            exact (hx1 this.symm).elim
        · cases hmm : meetOk (fixC c (i : Nat) (bitM h (i : Nat))) (atL .rule l (p : Nat)).2.1
          · rfl
          · have := meet_mono (b := c) (fun j hj hcj => by
              have hne : j ≠ i := fun e => by rw [e, hfree] at hcj; cases hcj
              obtain ⟨b1, b2⟩ := hbits j hj
              rw [b1, b2, if_neg hne, if_neg hne]
              exact ⟨hcj, rfl⟩) hmm
            rw [ih.off p (by omega)] at this; cases this
theorem free_kept {l : List Ru} {h : Hd} {n : Nat} {c : Cu} (hn : n ≤ l.length) (hc : Kept l h n n c) : ∀ i, i ≤ 104 → Kept l h n n (freeK (l.take n) (wholeM l n) c i)
  | 0, _ => hc
  | i + 1, hi => by
    have ih := free_kept hn hc i (by omega)
    simp only [freeK, freeAt]
    generalize freeK (l.take n) (wholeM l n) c i = d at ih
    cases h0 : (!bitM d.2 (i : Nat) || bitM (wholeM l n).2 (i : Nat))
    · rw [cond_false]
      cases h1 : ((l.take n).all fun r => !meetOk (looseC d (i : Nat)) r.2.1)
      · exact ih
      · rw [cond_true]
        rw [Bool.or_eq_false_iff, bit_nat _ (by omega), bit_nat _ (by omega)] at h0
        rw [loose_setC ih.canon (by omega)] at h1 ⊢
        refine ⟨by rw [← loose_setC ih.canon (by omega)]; exact loose_is _ (by omega), ?_, fun j hj hw => ?_, fun p hp => ?_⟩
        · rw [has_bits]
          intro j hj hm
          obtain ⟨b1, b2⟩ := set_two (c := d) (i := i) (n := j) (by omega) hj
          rw [b2] at hm
          by_cases e : j = i
          · rw [if_pos e] at hm; cases hm
          · rw [b1, if_neg e]
            rw [if_neg e] at hm
            exact (has_bits _ _ _).1 ih.has j hj hm
        · obtain ⟨b1, b2⟩ := set_two (c := d) (i := i) (n := j) (by omega) hj
          have hne : j ≠ i := fun e => by rw [e, h0.2] at hw; cases hw
          rw [b1, b2, if_neg hne, if_neg hne]
          exact ih.win j hj hw
        · exact (all_clear hn _).1 h1 p hp
    · exact ih
theorem fix_eq {l : List Ru} {h : Hd} {n : Nat} (hn : n < l.length) (h1 : hasR h l[n] = true) (h2 : ∀ j (hj : j < n), hasR h (l[j]'(by omega)) = false) : ∀ k, k ≤ n → rfixK l h (wholeM l n) k = fixK l h (wholeM l n) k
  | 0, _ => rfl
  | k + 1, hk => by
    have ih := fix_eq hn h1 h2 k (by omega)
    have hs := (fix_kept hn h1 h2 k (by omega)).canon
    simp only [rfixK, fixK, ih, step_eq hs]
theorem free_eq' {l : List Ru} {h : Hd} {n : Nat} {c : Cu} (hn : n < l.length) (hf : firstM l h = (n : Int)) (hc : Kept l h n n c) : ∀ i, i ≤ 104 → rfreeK l h c i = freeK (l.take n) (wholeM l n) c i
  | 0, _ => rfl
  | i + 1, hi => by
    have ih := free_eq' hn hf hc i (by omega)
    have hk := free_kept (Nat.le_of_lt hn) hc i (by omega)
    simp only [rfreeK, freeK, ih]
    generalize freeK (l.take n) (wholeM l n) c i = d at hk
    unfold rfreeAt freeAt
    have e1 : rskip l h d i = (!bitM d.2 (i : Nat) || bitM (wholeM l n).2 (i : Nat)) := by
      unfold rskip
      rw [hf, at_free d.1 d.2 (by omega), at_two _ _ (by omega), bit_nat _ (by omega), bit_nat _ (by omega), Bool.or_comm]
      rfl
    have e2 : clearM l (firstM l h) (setC d (i : Nat) 2) = (l.take n).all fun r => !meetOk (looseC d (i : Nat)) r.2.1 := by
      rw [hf, clearM, Int.toNat_natCast, loose_setC hk.canon (by omega)]
    rw [e1, e2, loose_setC hk.canon (by omega)]
theorem first_found {l : List Ru} {h : Hd} (hb : lookB l h = true) : ∃ hn : firstN l h < l.length, hasR h l[firstN l h] = true ∧ (∀ j (hj : j < firstN l h), hasR h (l[j]'(by omega)) = false) ∧ firstM l h = (firstN l h : Int) := by
  have hn : firstN l h < l.length := by simpa [lookB] using hb
  refine ⟨hn, List.findIdx_getElem (w := hn), fun j hj => ?_, ?_⟩
  · have := List.not_of_lt_findIdx (p := hasR h) (xs := l) hj
    simpa using this
  · unfold firstM
    have : decide (firstN l h < l.length) = true := by simpa using hn
    rw [this]; rfl
theorem rno_eq (l : List Ru) (h : Hd) : rno l h = !lookB l h := by
  unfold rno lookB firstM
  cases hd : decide (firstN l h < l.length)
  · rfl
  · rw [cond_true]; simp
theorem about_eq (l : List Ru) (h : Hd) : raboutC l h = aboutC l h ∧ raboutA l h = aboutA l h ∧ raboutB l h = lookB l h := by
  unfold raboutC raboutA raboutB aboutC aboutA
  rw [rno_eq]
  cases hb : lookB l h
  · exact ⟨rfl, rfl, rfl⟩
  · obtain ⟨hn, h1, h2, hf⟩ := first_found hb
    have hw : rwhole l h = wholeM l (firstN l h) := by unfold rwhole wholeM; rw [hf]
    refine ⟨?_, ?_, rfl⟩
    · rw [Bool.not_true, cond_false, cond_true, aboutN, rfreed, rfixed, hw, hf, Int.toNat_natCast, fix_eq hn h1 h2 _ (Nat.le_refl _)]
      exact free_eq' hn hf (fix_kept hn h1 h2 _ (Nat.le_refl _)) 104 (Nat.le_refl _)
    · rw [Bool.not_true, cond_false, cond_true, hf]
theorem about_kept {l : List Ru} {h : Hd} (hb : lookB l h = true) : Kept l h (firstN l h) (firstN l h) (aboutC l h) := by
  obtain ⟨hn, h1, h2, _⟩ := first_found hb
  unfold aboutC
  rw [hb, cond_true, aboutN]
  exact free_kept (Nat.le_of_lt hn) (fix_kept hn h1 h2 _ (Nat.le_refl _)) 104 (Nat.le_refl _)
theorem right_of {c : Cu} (h : isCanon c) : rightM c = true := by unfold rightM; rw [canon_of h]; simp
theorem about_right (l : List Ru) (h : Hd) : rightM (aboutC l h) = true := by
  cases hb : lookB l h
  · unfold aboutC; rw [hb, cond_false]; exact right_of fun n _ h => by simp at h
  · exact right_of (about_kept hb).canon
/-- what may be kept is safe -/
theorem about_safe {l : List Ru} {h g : Hd} (hb : lookB l h = true) (hg : hasM (aboutC l h).1 (aboutC l h).2 g = true) : firstN l g = firstN l h := by
  have hk := about_kept hb
  obtain ⟨hn, h1, h2, _⟩ := first_found hb
  refine first_lt hn ?_ fun j hj => ?_
  · show hasM l[firstN l h].2.1.1 l[firstN l h].2.1.2 g = true
    have hw : hasM (wholeM l (firstN l h)).1 (wholeM l (firstN l h)).2 g = true := (has_bits _ _ _).2 fun n hn' hm => by
      obtain ⟨e1, e2⟩ := hk.win n hn' hm
      rw [← e2]; exact (has_bits _ _ _).1 hg n hn' e1
    have e := at_rule (l := l) hn
    rw [wholeM, has_canon, e] at hw
    exact hw
  · cases hgj : hasR g (l[j]'(by omega))
    · rfl
    · have := hk.off j hj
      rw [at_rule (by omega)] at this
      rw [meet_has' hg hgj] at this; cases this
end Mx
