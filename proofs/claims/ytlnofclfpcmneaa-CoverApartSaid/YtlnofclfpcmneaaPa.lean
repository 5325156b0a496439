/- Bits of headers: plain laws. Own work; no program in sight. -/
import Derived.Test.YtlnofclfpcmneaaXd
import Derived.Test.YtlnofclfpcmneaaXl
import Derived.Laws.Entries
namespace Mx
open Go
/-- bit i of a header -/
def bitM (h : Hd) (i : Int) : Bool := decide (0 ≤ i) && decide (i < 104) && h.getMsbD i.toNat
theorem wrap_i64 {n : Int} (h0 : -9223372036854775808 ≤ n) (h1 : n < 9223372036854775808) : IntKind.i64.wrap n = n := by
  unfold IntKind.wrap
  simp only [IntKind.bits, IntKind.signed, Bool.true_and, decide_eq_true_eq, ge_iff_le]
  split <;> omega
theorem wrap_u8 {n : Int} (h0 : 0 ≤ n) (h1 : n < 256) : IntKind.u8.wrap n = n := by
  simp only [IntKind.wrap, IntKind.bits, IntKind.signed, Bool.false_and, Bool.false_eq_true, if_false]
  omega
theorem ofInt_u8 (m : Nat) : BitVec.ofInt 8 (m : Int) = BitVec.ofNat 8 m := by
  apply BitVec.eq_of_toNat_eq
  simp
theorem and_u8 {m n : Nat} (hm : m < 256) (hn : n < 256) : bits .and .u8 m n = ((m &&& n : Nat) : Int) := by
  have h : m &&& n < 256 := Nat.lt_of_le_of_lt Nat.and_le_left hm
  show IntKind.u8.wrap ((BitVec.ofInt 8 m &&& BitVec.ofInt 8 n).toNat : Int) = _
  rw [ofInt_u8, ofInt_u8, BitVec.toNat_and, BitVec.toNat_ofNat, BitVec.toNat_ofNat, Nat.mod_eq_of_lt (show m < 2 ^ 8 from hm), Nat.mod_eq_of_lt (show n < 2 ^ 8 from hn), wrap_u8 (by omega) (by omega)]
theorem or_u8 {m n : Nat} (hm : m < 256) (hn : n < 256) : bits .or .u8 m n = ((m ||| n : Nat) : Int) := by
  have h : m ||| n < 256 := Nat.or_lt_two_pow (n := 8) hm hn
  show IntKind.u8.wrap ((BitVec.ofInt 8 m ||| BitVec.ofInt 8 n).toNat : Int) = _
  rw [ofInt_u8, ofInt_u8, BitVec.toNat_or, BitVec.toNat_ofNat, BitVec.toNat_ofNat, Nat.mod_eq_of_lt (show m < 2 ^ 8 from hm), Nat.mod_eq_of_lt (show n < 2 ^ 8 from hn), wrap_u8 (by omega) (by omega)]
theorem xor_u8 {m n : Nat} (hm : m < 256) (hn : n < 256) : bits .xor .u8 m n = ((m ^^^ n : Nat) : Int) := by
  have h : m ^^^ n < 256 := Nat.xor_lt_two_pow (n := 8) hm hn
  show IntKind.u8.wrap ((BitVec.ofInt 8 m ^^^ BitVec.ofInt 8 n).toNat : Int) = _
  rw [ofInt_u8, ofInt_u8, BitVec.toNat_xor, BitVec.toNat_ofNat, BitVec.toNat_ofNat, Nat.mod_eq_of_lt (show m < 2 ^ 8 from hm), Nat.mod_eq_of_lt (show n < 2 ^ 8 from hn), wrap_u8 (by omega) (by omega)]
theorem hbn_lt' (h : Hd) (k : Nat) : hbn h k < 256 := Nat.mod_lt _ (by omega)
/-- a byte's bit is a header's bit -/
theorem hbn_bit (h : Hd) {k j : Nat} (hk : k < 13) (hj : j < 8) : (hbn h k).testBit (7 - j) = h.getMsbD (8 * k + j) := by
  unfold hbn
  rw [show (256 : Nat) = 2 ^ 8 from rfl, Nat.testBit_mod_two_pow, Nat.testBit_shiftRight, BitVec.getMsbD]
  have h1 : 8 * k + j < 104 := by omega
  simp only [show 7 - j < 8 by omega, decide_true, Bool.true_and, h1]
  rw [BitVec.getLsbD]
  congr 1
  omega
theorem shr128 {j : Nat} (hj : j < 8) : (128 : Int).fdiv (2 ^ (min j 8)) = ((2 ^ (7 - j) : Nat) : Int) := by
  have : j = 0 ∨ j = 1 ∨ j = 2 ∨ j = 3 ∨ j = 4 ∨ j = 5 ∨ j = 6 ∨ j = 7 := by omega
  rcases this with rfl | rfl | rfl | rfl | rfl | rfl | rfl | rfl <;> rfl
theorem and_pow (m j : Nat) : (m &&& 2 ^ j != 0) = m.testBit j := by
  cases hb : m.testBit j
  · have : m &&& 2 ^ j = 0 := Nat.eq_of_testBit_eq fun i => by
      rw [Nat.testBit_and, Nat.testBit_two_pow, Nat.zero_testBit]
      by_cases h : j = i
      · subst h; simp [hb]
      · simp [h]
    rw [this]; rfl
  · have : m &&& 2 ^ j ≠ 0 := fun h => by
      have h2 := congrArg (fun n => n.testBit j) h
      simp only [Nat.testBit_and, Nat.testBit_two_pow, Nat.zero_testBit, hb] at h2
      simp at h2
    simpa using this
/-- what head.Bit computes -/
theorem bit_go (h : Hd) (i : Int) (h0 : 0 ≤ i) (h1 : i < 104) : (bits .and .u8 (hb h (IntKind.i64.wrap (i.tdiv 8))) ((128 : Int).fdiv (2 ^ (min (i.tmod 8).toNat 8))) != 0) = bitM h i := by
  obtain ⟨n, rfl⟩ := Int.eq_ofNat_of_zero_le h0
  have e1 : IntKind.i64.wrap ((n : Int).tdiv 8) = ((n / 8 : Nat) : Int) := by
    rw [Int.tdiv_eq_ediv_of_nonneg h0, wrap_i64 (by omega) (by omega)]; omega
  have e2 : ((n : Int).tmod 8).toNat = n % 8 := by rw [Int.tmod_eq_emod_of_nonneg h0]; omega
  rw [e1, e2, shr128 (Nat.mod_lt _ (by omega)), hb, Int.toNat_natCast, and_u8 (hbn_lt' _ _) (by have := Nat.pow_le_pow_right (show 0 < 2 by omega) (show 7 - n % 8 ≤ 7 by omega); omega)]
  have e3 := hbn_bit h (k := n / 8) (j := n % 8) (by omega) (Nat.mod_lt _ (by omega))
  have e4 := and_pow (hbn h (n / 8)) (7 - n % 8)
  rw [e3, show 8 * (n / 8) + n % 8 = n by omega] at e4
  have e5 : ((((hbn h (n / 8) &&& 2 ^ (7 - n % 8) : Nat) : Int)) != 0) = (hbn h (n / 8) &&& 2 ^ (7 - n % 8) != 0) := by
    cases hx : (hbn h (n / 8) &&& 2 ^ (7 - n % 8) != 0)
    · have : hbn h (n / 8) &&& 2 ^ (7 - n % 8) = 0 := by simpa using hx
      rw [this]; rfl
    · have : hbn h (n / 8) &&& 2 ^ (7 - n % 8) ≠ 0 := by simpa using hx
      simp only [bne_iff_ne, ne_eq]
      omega
  rw [e5, e4, bitM]
  simp only [Int.toNat_natCast]
  have : (0 : Int) ≤ n := h0
  simp [h1]
/-- what the reference's Bit computes -/
theorem bit_ref (h : Hd) (i : Int) (h0 : 0 ≤ i) (h1 : i < 104) : (((hb h (IntKind.i64.wrap (i.tdiv 8))).fdiv (2 ^ (min (IntKind.i64.wrap (7 - i.tmod 8)).toNat 8))).tmod 2 == 1) = bitM h i := by
  obtain ⟨n, rfl⟩ := Int.eq_ofNat_of_zero_le h0
  have e1 : IntKind.i64.wrap ((n : Int).tdiv 8) = ((n / 8 : Nat) : Int) := by
    rw [Int.tdiv_eq_ediv_of_nonneg h0, wrap_i64 (by omega) (by omega)]; omega
  have e2 : (IntKind.i64.wrap (7 - (n : Int).tmod 8)).toNat = 7 - n % 8 := by rw [Int.tmod_eq_emod_of_nonneg h0, wrap_i64 (by omega) (by omega)]; omega
  rw [e1, e2, hb, Int.toNat_natCast, Nat.min_eq_left (by omega)]
  have e3 := hbn_bit h (k := n / 8) (j := n % 8) (by omega) (Nat.mod_lt _ (by omega))
  rw [show 8 * (n / 8) + n % 8 = n by omega] at e3
  have e4 : ((hbn h (n / 8) : Nat) : Int).fdiv (2 ^ (7 - n % 8)) = ((hbn h (n / 8) / 2 ^ (7 - n % 8) : Nat) : Int) := by
    rw [Int.fdiv_eq_ediv_of_nonneg _ (by exact Int.pow_nonneg (by omega))]
    simp
  rw [e4, Int.tmod_eq_emod_of_nonneg (Int.natCast_nonneg _), bitM]
  simp only [Int.toNat_natCast]
  rw [← e3, Nat.testBit_eq_decide_div_mod_eq]
  have : (0 : Int) ≤ n := h0
  simp only [this, h1, decide_true, Bool.true_and]
  cases hx : decide (hbn h (n / 8) / 2 ^ (7 - n % 8) % 2 = 1)
  · simp only [decide_eq_false_iff_not] at hx
    simp only [beq_eq_false_iff_ne]
    omega
  · simp only [decide_eq_true_eq] at hx
    simp only [beq_iff_eq]
    omega
/-- a header with bit i turned -/
def flipM (h : Hd) (i : Int) : Hd := bif decide (0 ≤ i) && decide (i < 104) then h ^^^ BitVec.twoPow 104 (103 - i.toNat) else h
/-- a header with bit i as it is told -/
def putM (h : Hd) (i : Int) (b : Bool) : Hd := bif bitM h i == b then h else flipM h i
theorem flip_msb (h : Hd) {n m : Nat} (hn : n < 104) (hm : m < 104) : (h ^^^ BitVec.twoPow 104 (103 - n)).getMsbD m = (h.getMsbD m ^^ decide (m = n)) := by
  rw [BitVec.getMsbD_xor, BitVec.getMsbD_twoPow]
  congr 1
  by_cases h : m = n
  · subst h; simp; omega
  · simp [h]; omega
theorem hd_ext_msb {x y : Hd} (h : ∀ n, n < 104 → x.getMsbD n = y.getMsbD n) : x = y :=
  BitVec.eq_of_getMsbD_eq h
theorem hbn_setHb (h : Hd) (k : Nat) (n : Int) (k' : Nat) (hk' : k' < 13) (hn : 0 ≤ n ∧ n < 256) : hbn (setHb h k n) k' = if k' = k then n.toNat else hbn h k' := by
  rw [setHb, hbn_ofB _ _ hk']
  by_cases hk : k' = k
  · subst hk; simp; omega
  · have : (k' == k) = false := by simpa using hk
    rw [this, cond_false, if_neg hk, Nat.mod_eq_of_lt (hbn_lt' h k')]
theorem setHb_msb (h : Hd) {k : Nat} (n : Nat) (hn : n < 256) {m : Nat} (hm : m < 104) : (setHb h k n).getMsbD m = if m / 8 = k then n.testBit (7 - m % 8) else h.getMsbD m := by
  have e := hbn_bit (setHb h k n) (k := m / 8) (j := m % 8) (by omega) (Nat.mod_lt _ (by omega))
  have e' := hbn_bit h (k := m / 8) (j := m % 8) (by omega) (Nat.mod_lt _ (by omega))
  rw [show 8 * (m / 8) + m % 8 = m by omega] at e e'
  rw [← e, hbn_setHb h k n (m / 8) (by omega) (by omega)]
  by_cases hk : m / 8 = k
  · rw [if_pos hk, if_pos hk, Int.toNat_natCast]
  · rw [if_neg hk, if_neg hk, e']
/-- a byte's turned bit is the header's -/
theorem setHb_flip (h : Hd) {n : Nat} (hn : n < 104) : setHb h (n / 8) ((hbn h (n / 8) ^^^ 2 ^ (7 - n % 8) : Nat) : Int) = h ^^^ BitVec.twoPow 104 (103 - n) := by
  have hp : 2 ^ (7 - n % 8) < 256 := Nat.lt_of_le_of_lt (Nat.pow_le_pow_right (show 0 < 2 by omega) (show 7 - n % 8 ≤ 7 by omega)) (by omega)
  refine hd_ext_msb fun m hm => ?_
  rw [setHb_msb h _ (Nat.xor_lt_two_pow (n := 8) (hbn_lt' _ _) hp) hm, flip_msb h hn hm]
  by_cases hk : m / 8 = n / 8
  · have e := hbn_bit h (k := m / 8) (j := m % 8) (by omega) (Nat.mod_lt _ (by omega))
    rw [show 8 * (m / 8) + m % 8 = m by omega] at e
    rw [if_pos hk, Nat.testBit_xor, Nat.testBit_two_pow, ← hk, e]
    congr 1
    by_cases hmn : m = n
    · subst hmn; simp
    · have : ¬ (7 - n % 8 = 7 - m % 8) := by omega
      simp [hmn, this]
  · have : m ≠ n := fun e => hk (by rw [e])
    rw [if_neg hk]; simp [this]
theorem div_nat (n : Nat) (hn : n < 104) : IntKind.i64.wrap ((n : Int).tdiv 8) = ((n / 8 : Nat) : Int) := by
  rw [Int.tdiv_eq_ediv_of_nonneg (by omega), wrap_i64 (by omega) (by omega)]; omega
theorem pow_lt (n : Nat) : 2 ^ (7 - n % 8) < 256 := Nat.lt_of_le_of_lt (Nat.pow_le_pow_right (show 0 < 2 by omega) (show 7 - n % 8 ≤ 7 by omega)) (by omega)
theorem mod_nat (n : Nat) : ((n : Int).tmod 8).toNat = n % 8 := by rw [Int.tmod_eq_emod_of_nonneg (Int.natCast_nonneg n)]; omega
theorem flip_go (h : Hd) (i : Int) (h0 : 0 ≤ i) (h1 : i < 104) : setHb h (IntKind.i64.wrap (i.tdiv 8)).toNat (bits .xor .u8 (hb h (IntKind.i64.wrap (i.tdiv 8))) ((128 : Int).fdiv (2 ^ (min (i.tmod 8).toNat 8)))) = flipM h i := by
  obtain ⟨n, rfl⟩ := Int.eq_ofNat_of_zero_le h0
  rw [div_nat n (by omega), mod_nat n, shr128 (Nat.mod_lt _ (by omega)), hb, Int.toNat_natCast, xor_u8 (hbn_lt' _ _) (pow_lt n), setHb_flip h (by omega), flipM]
  have e1 : decide ((0 : Int) ≤ n) = true := by simp
  have e2 : decide ((n : Int) < 104) = true := by simpa using h1
  rw [e1, e2, Bool.true_and, cond_true, Int.toNat_natCast]
theorem xor_byte (h : Hd) (i : Int) (h0 : 0 ≤ i) (h1 : i < 104) : 0 ≤ bits .xor .u8 (hb h (IntKind.i64.wrap (i.tdiv 8))) ((128 : Int).fdiv (2 ^ (min (i.tmod 8).toNat 8))) ∧ bits .xor .u8 (hb h (IntKind.i64.wrap (i.tdiv 8))) ((128 : Int).fdiv (2 ^ (min (i.tmod 8).toNat 8))) < 256 := by
  obtain ⟨n, rfl⟩ := Int.eq_ofNat_of_zero_le h0
  rw [div_nat n (by omega), mod_nat n, shr128 (Nat.mod_lt _ (by omega)), hb, Int.toNat_natCast, xor_u8 (hbn_lt' _ _) (pow_lt n)]
  have := Nat.xor_lt_two_pow (n := 8) (hbn_lt' h (n / 8)) (pow_lt n)
  omega
set_option maxRecDepth 100000 in
theorem add_xor : ∀ b : Fin 256, ∀ j : Fin 8, (b.val.testBit j.val = false → b.val + 2 ^ j.val = b.val ^^^ 2 ^ j.val) ∧ (b.val.testBit j.val = true → b.val - 2 ^ j.val = b.val ^^^ 2 ^ j.val ∧ 2 ^ j.val ≤ b.val) := by decide
theorem plus_xor (h : Hd) (i : Int) (h0 : 0 ≤ i) (h1 : i < 104) (hb' : bitM h i = false) : IntKind.u8.wrap (hb h (IntKind.i64.wrap (i.tdiv 8)) + (128 : Int).fdiv (2 ^ (min (i.tmod 8).toNat 8))) = bits .xor .u8 (hb h (IntKind.i64.wrap (i.tdiv 8))) ((128 : Int).fdiv (2 ^ (min (i.tmod 8).toNat 8))) := by
  obtain ⟨n, rfl⟩ := Int.eq_ofNat_of_zero_le h0
  rw [div_nat n (by omega), mod_nat n, shr128 (Nat.mod_lt _ (by omega)), hb, Int.toNat_natCast, xor_u8 (hbn_lt' _ _) (pow_lt n)]
  have e3 := hbn_bit h (k := n / 8) (j := n % 8) (by omega) (Nat.mod_lt _ (by omega))
  rw [show 8 * (n / 8) + n % 8 = n by omega] at e3
  have e4 : h.getMsbD n = false := by simpa [bitM, h1] using hb'
  have e5 := (add_xor ⟨hbn h (n / 8), hbn_lt' _ _⟩ ⟨7 - n % 8, by omega⟩).1 (by rw [← e4, ← e3])
  simp only at e5
  rw [← e5]
  have e6 := Nat.xor_lt_two_pow (n := 8) (hbn_lt' h (n / 8)) (pow_lt n)
  rw [← e5] at e6
  rw [wrap_u8 (by omega) (by omega)]
  omega
theorem minus_xor (h : Hd) (i : Int) (h0 : 0 ≤ i) (h1 : i < 104) (hb' : bitM h i = true) : IntKind.u8.wrap (hb h (IntKind.i64.wrap (i.tdiv 8)) - (128 : Int).fdiv (2 ^ (min (i.tmod 8).toNat 8))) = bits .xor .u8 (hb h (IntKind.i64.wrap (i.tdiv 8))) ((128 : Int).fdiv (2 ^ (min (i.tmod 8).toNat 8))) := by
  obtain ⟨n, rfl⟩ := Int.eq_ofNat_of_zero_le h0
  rw [div_nat n (by omega), mod_nat n, shr128 (Nat.mod_lt _ (by omega)), hb, Int.toNat_natCast, xor_u8 (hbn_lt' _ _) (pow_lt n)]
  have e3 := hbn_bit h (k := n / 8) (j := n % 8) (by omega) (Nat.mod_lt _ (by omega))
  rw [show 8 * (n / 8) + n % 8 = n by omega] at e3
  have e4 : h.getMsbD n = true := by simpa [bitM, h1] using hb'
  obtain ⟨e5, e7⟩ := (add_xor ⟨hbn h (n / 8), hbn_lt' _ _⟩ ⟨7 - n % 8, by omega⟩).2 (by rw [← e4, ← e3])
  simp only at e5 e7
  have e6 := Nat.xor_lt_two_pow (n := 8) (hbn_lt' h (n / 8)) (pow_lt n)
  rw [← e5] at e6 ⊢
  rw [wrap_u8 (by omega) (by omega)]
  omega
end Mx
