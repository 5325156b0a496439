/- The plain laws of cubes: no program in sight. Own work. -/
import Derived.Test.YtlnofclfpcmneaaFl
namespace Mx
open Go
theorem bit_nat (h : Hd) {n : Nat} (hn : n < 104) : bitM h (n : Nat) = h.getMsbD n := bitM_nat h hn
theorem cu_ext {a b : Cu} (h : ∀ n, n < 104 → a.1.getMsbD n = b.1.getMsbD n ∧ a.2.getMsbD n = b.2.getMsbD n) : a = b :=
  Prod.ext (hd_ext_msb fun n hn => (h n hn).1) (hd_ext_msb fun n hn => (h n hn).2)
theorem canon1 (c : Cu) (n : Nat) : (canonM c).1.getMsbD n = (c.1.getMsbD n && c.2.getMsbD n) := by simp [canonM]
theorem canon2 (c : Cu) : (canonM c).2 = c.2 := rfl
theorem canon_idem (c : Cu) : canonM (canonM c) = canonM c := by
  refine cu_ext fun n _ => ⟨?_, rfl⟩
  simp [canonM]
theorem has_canon (c : Cu) (h : Hd) : hasM (canonM c).1 (canonM c).2 h = hasM c.1 c.2 h := by
  rw [Bool.eq_iff_iff, has_bits, has_bits]
  refine forall_congr' fun n => forall_congr' fun _ => ?_
  rw [canon1, canon2]
  refine ⟨fun hh hm => ?_, fun hh hm => ?_⟩
  · rw [← hh hm, hm, Bool.and_true]
  · rw [← hh hm, hm, Bool.and_true]
theorem has_all (h : Hd) : hasM 0 0 h = true := (has_bits _ _ _).2 fun n _ hm => by simp at hm
theorem ones_bit {n : Nat} (hn : n < 104) : ones.getMsbD n = true := by simp only [ones, BitVec.getMsbD_allOnes, hn, decide_true]
theorem has_one (g h : Hd) : hasM g ones h = (g == h) := by
  rw [Bool.eq_iff_iff, has_bits, beq_iff_eq]
  exact ⟨fun hh => hd_ext_msb fun n hn => hh n hn (ones_bit hn), fun hh n _ _ => by rw [hh]⟩
theorem lo_bit (c : Cu) (n : Nat) : (loM c).getMsbD n = (c.1.getMsbD n && c.2.getMsbD n) := by simp [loM]
theorem hi_bit (c : Cu) {n : Nat} (hn : n < 104) : (hiM c).getMsbD n = ((c.1.getMsbD n && c.2.getMsbD n) || !c.2.getMsbD n) := by
  simp only [hiM, BitVec.getMsbD_or, BitVec.getMsbD_and, BitVec.getMsbD_not, hn, decide_true, Bool.true_and]
theorem has_lo (c : Cu) : hasM c.1 c.2 (loM c) = true := (has_bits _ _ _).2 fun n _ hm => by rw [lo_bit, hm, Bool.and_true]
theorem has_hi (c : Cu) : hasM c.1 c.2 (hiM c) = true := (has_bits _ _ _).2 fun n hn hm => by rw [hi_bit c hn, hm, Bool.and_true]; simp
theorem lo_one (g : Hd) : loM (g, ones) = g := hd_ext_msb fun n hn => by rw [lo_bit, ones_bit hn, Bool.and_true]
theorem hi_one (g : Hd) : hiM (g, ones) = g := hd_ext_msb fun n hn => by rw [hi_bit _ hn, ones_bit hn, Bool.and_true]; simp
theorem right_one (g : Hd) : rightM (g, ones) = true := by
  unfold rightM
  rw [beq_iff_eq]
  exact cu_ext fun n hn => ⟨by rw [canon1, ones_bit hn, Bool.and_true], rfl⟩
/-! ### how many bits are free -/
theorem at_free (v m : Hd) {n : Nat} (hn : n < 104) : (atM v m (n : Nat) == 2) = !m.getMsbD n := by
  unfold atM
  rw [bit_nat m hn, bit_nat v hn]
  cases m.getMsbD n <;> cases v.getMsbD n <;> rfl
theorem free_eight (c : Cu) (k : Nat) (hk : k < 13) : (rfreeN c (8 * (k + 1)) : Int) = rfreeN c (8 * k) + 8 - popM (hb c.2 k) := by
  have e : ∀ j, j < 8 → (atM c.1 c.2 ((8 * k + j : Nat) : Int) == 2) = !(hbn c.2 k).testBit (7 - j) := fun j hj => by
    rw [at_free c.1 c.2 (n := 8 * k + j) (by omega), hbn_bit c.2 hk hj]
  have hp : popM (hb c.2 k) = ((List.range 8).countP fun j => (hbn c.2 k).testBit j : Nat) := by simp [popM, popN, hb]
  rw [hp, show 8 * (k + 1) = 8 * k + 7 + 1 by omega, rfree_succ, show 8 * k + 7 = 8 * k + 6 + 1 by omega, rfree_succ, show 8 * k + 6 = 8 * k + 5 + 1 by omega, rfree_succ, show 8 * k + 5 = 8 * k + 4 + 1 by omega, rfree_succ,
    show 8 * k + 4 = 8 * k + 3 + 1 by omega, rfree_succ, show 8 * k + 3 = 8 * k + 2 + 1 by omega, rfree_succ, show 8 * k + 2 = 8 * k + 1 + 1 by omega, rfree_succ, rfree_succ]
  have e0 := e 0 (by omega)
  have e1 := e 1 (by omega)
  have e2 := e 2 (by omega)
  have e3 := e 3 (by omega)
  have e4 := e 4 (by omega)
  have e5 := e 5 (by omega)
  have e6 := e 6 (by omega)
  have e7 := e 7 (by omega)
  simp only [Nat.add_assoc, Nat.reduceAdd] at e0 e1 e2 e3 e4 e5 e6 e7 ⊢
  rw [Nat.add_zero] at e0
  rw [e0, e1, e2, e3, e4, e5, e6, e7]
  simp only [show List.range 8 = [0, 1, 2, 3, 4, 5, 6, 7] from rfl, List.countP_cons, List.countP_nil, Nat.reduceSub]
  cases (hbn c.2 k).testBit 0 <;> cases (hbn c.2 k).testBit 1 <;> cases (hbn c.2 k).testBit 2 <;> cases (hbn c.2 k).testBit 3 <;> cases (hbn c.2 k).testBit 4 <;> cases (hbn c.2 k).testBit 5 <;> cases (hbn c.2 k).testBit 6 <;> cases (hbn c.2 k).testBit 7 <;> simp <;> omega
theorem free_step (c : Cu) : ∀ k : Nat, k ≤ 13 → freeL c k = (rfreeN c (8 * k) : Int) + 104 - 8 * k
  | 0, _ => by simp [freeL, rfreeN]
  | k + 1, hk => by
    rw [freeL, free_step c k (by omega), free_eight c k (by omega)]
    omega
theorem free_eq (c : Cu) : freeM c = rfreeM c := by
  rw [freeM, free_step c 13 (by omega), rfreeM]
  simp
theorem free_one (g : Hd) : freeM (g, ones) = 0 := by
  rw [free_eq, rfreeM]
  have : rfreeN (g, ones) 104 = 0 := by
    unfold rfreeN
    rw [List.countP_eq_zero]
    intro n hn
    have hn := List.mem_range.1 hn
    rw [at_free _ _ hn, ones_bit hn]
    simp
  rw [this]; rfl
/-! ### within -/
theorem within_bits (a b : Cu) : withinM a b = true ↔ ∀ n, n < 104 → b.2.getMsbD n = true → a.2.getMsbD n = true ∧ a.1.getMsbD n = b.1.getMsbD n := by
  obtain ⟨v0, m0⟩ := a
  obtain ⟨v1, m1⟩ := b
  unfold withinM
  rw [Bool.and_eq_true, beq_iff_eq]
  constructor
  · rintro ⟨hok, he⟩ n hn hm
    rw [meetC, hok, cond_true] at he
    have h1 := congrArg (fun c : Cu => c.1.getMsbD n) he
    have h2 := congrArg (fun c : Cu => c.2.getMsbD n) he
    rw [meet_bits] at hok
    have h3 := hok n hn
    simp only [canonM, BitVec.getMsbD_or, BitVec.getMsbD_and] at h1 h2 h3 hm
    simp only
    cases e1 : v0.getMsbD n <;> cases e2 : m0.getMsbD n <;> cases e3 : v1.getMsbD n <;> simp_all
  · intro h
    have hok : meetOk (v0, m0) (v1, m1) = true := (meet_bits _ _ _ _).2 fun n hn => by
      cases hm : m1.getMsbD n
      · simp
      · rw [(h n hn hm).2]; simp
    refine ⟨hok, ?_⟩
    rw [meetC, hok, cond_true]
    refine cu_ext fun n hn => ?_
    have h' := h n hn
    simp only [canonM, BitVec.getMsbD_or, BitVec.getMsbD_and] at h' ⊢
    cases e1 : v0.getMsbD n <;> cases e2 : m0.getMsbD n <;> cases e3 : v1.getMsbD n <;> cases e4 : m1.getMsbD n <;> simp_all
theorem rwithin_bits (a b : Cu) : rwithinM a b = true ↔ ∀ n, n < 104 → b.2.getMsbD n = true → a.2.getMsbD n = true ∧ a.1.getMsbD n = b.1.getMsbD n := by
  unfold rwithinM
  rw [List.all_eq_true]
  have key : ∀ n, n < 104 → (((atM b.1 b.2 (n : Nat) == 2) || (atM a.1 a.2 (n : Nat) == atM b.1 b.2 (n : Nat))) = true ↔ (b.2.getMsbD n = true → a.2.getMsbD n = true ∧ a.1.getMsbD n = b.1.getMsbD n)) := fun n hn => by
    unfold atM
    rw [bit_nat _ hn, bit_nat _ hn, bit_nat _ hn, bit_nat _ hn]
    cases a.1.getMsbD n <;> cases a.2.getMsbD n <;> cases b.1.getMsbD n <;> cases b.2.getMsbD n <;> simp
  exact ⟨fun h n hn => (key n hn).1 (h n (List.mem_range.2 hn)), fun h n hn => (key n (List.mem_range.1 hn)).2 (h n (List.mem_range.1 hn))⟩
theorem within_eq (a b : Cu) : withinM a b = rwithinM a b := by rw [Bool.eq_iff_iff, within_bits, rwithin_bits]
theorem within_self (a : Cu) : withinM a a = true := (within_bits _ _).2 fun n _ hm => ⟨hm, rfl⟩
theorem within_all (a : Cu) : withinM a (0, 0) = true := (within_bits _ _).2 fun n _ hm => by simp at hm
theorem within_has {a b : Cu} (h : withinM a b = true) (x : Hd) (hx : hasM a.1 a.2 x = true) : hasM b.1 b.2 x = true := by
  rw [within_bits] at h
  rw [has_bits] at hx ⊢
  intro n hn hm
  obtain ⟨h1, h2⟩ := h n hn hm
  rw [← h2, hx n hn h1]
/-! ### fixed and free bits -/
theorem flipM_bit (h : Hd) {k n : Nat} (hk : k < 104) (hn : n < 104) : (flipM h (k : Nat)).getMsbD n = (h.getMsbD n ^^ decide (n = k)) := by
  have h1 : (k : Int) < 104 := by omega
  rw [flipM]
  simp only [Int.natCast_nonneg, h1, decide_true, Bool.and_self, cond_true, Int.toNat_natCast]
  exact flip_msb h hk hn
theorem in_nat {k : Nat} (hk : k < 104) : inM (k : Nat) = true := by
  have h1 : (k : Int) < 104 := by omega
  simp [inM, h1]
theorem loose_put (c : Cu) {k : Nat} (hk : k < 104) : looseC c (k : Nat) = (putM (canonM c).1 (k : Nat) false, putM c.2 (k : Nat) false) := by
  rw [looseC, in_nat hk, cond_true]
  refine cu_ext fun n hn => ?_
  rw [canon1, canon2]
  simp only
  rw [put_msb _ hk hn, put_msb _ hk hn, canon1]
  by_cases h : n = k <;> simp [h]
theorem fix_put (c : Cu) {k : Nat} (hk : k < 104) (b : Bool) : fixC c (k : Nat) b = (putM (canonM c).1 (k : Nat) b, putM c.2 (k : Nat) true) := by
  rw [fixC, in_nat hk, cond_true, loose_put c hk]
  refine cu_ext fun n hn => ?_
  simp only
  constructor
  · cases b
    · rw [cond_false]
    · rw [cond_true, flipM_bit _ hk hn, put_msb _ hk hn, put_msb _ hk hn]
      by_cases h : n = k <;> simp [h]
  · rw [flipM_bit _ hk hn, put_msb _ hk hn, put_msb _ hk hn]
    by_cases h : n = k <;> simp [h]
def isCanon (c : Cu) : Prop := ∀ n, n < 104 → c.1.getMsbD n = true → c.2.getMsbD n = true
theorem canon_is (c : Cu) : isCanon (canonM c) := fun _ _ h => by
  rw [canon1, Bool.and_eq_true] at h
  exact h.2
theorem canon_of {c : Cu} (h : isCanon c) : canonM c = c := cu_ext fun n hn => ⟨by
  rw [canon1]
  have := h n hn
  cases e : c.1.getMsbD n <;> simp_all, rfl⟩
theorem fix_is (c : Cu) {k : Nat} (hk : k < 104) (b : Bool) : isCanon (fixC c (k : Nat) b) := fun n hn h => by
  rw [fix_put c hk] at h ⊢
  simp only at h ⊢
  rw [put_msb _ hk hn] at h ⊢
  by_cases e : n = k
  · simp [e]
  · rw [if_neg e] at h ⊢
    rw [canon1, Bool.and_eq_true] at h
    exact h.2
theorem fix_set (c : Cu) {k : Nat} (hk : k < 104) (b : Bool) : fixC c (k : Nat) b = (setV (canonM c).1 (k : Nat) (bif b then 1 else 0), setK (canonM c).2 (k : Nat) (bif b then 1 else 0)) := by
  rw [fix_put c hk]
  cases b <;> rfl
theorem loose_set (c : Cu) {k : Nat} (hk : k < 104) : looseC c (k : Nat) = (setV (canonM c).1 (k : Nat) 2, setK (canonM c).2 (k : Nat) 2) := by
  rw [loose_put c hk]
  rfl
theorem has_fix (c : Cu) {k : Nat} (hk : k < 104) (b : Bool) (h : Hd) (hf : c.2.getMsbD k = false) : hasM (fixC c (k : Nat) b).1 (fixC c (k : Nat) b).2 h = (hasM c.1 c.2 h && (h.getMsbD k == b)) := by
  rw [fix_put c hk, Bool.eq_iff_iff, Bool.and_eq_true, has_bits, has_bits, beq_iff_eq]
  constructor
  · intro hh
    refine ⟨fun n hn hm => ?_, ?_⟩
    · have hne : n ≠ k := fun e => by rw [e, hf] at hm; cases hm
      have := hh n hn (by simp only; rw [put_msb _ hk hn, if_neg hne]; exact hm)
      simp only at this
      rwa [put_msb _ hk hn, if_neg hne, canon1, hm, Bool.and_true] at this
    · have := hh k hk (by simp only; rw [put_msb _ hk hk, if_pos rfl])
      simp only at this
      rw [put_msb _ hk hk, if_pos rfl] at this
      exact this.symm
  · rintro ⟨hh, hb⟩ n hn hm
    simp only at hm ⊢
    rw [put_msb _ hk hn] at hm ⊢
    by_cases e : n = k
    · subst e; rw [if_pos rfl, hb]
    · rw [if_neg e] at hm ⊢
      rw [canon1, hm, Bool.and_true]
      exact hh n hn hm
end Mx
