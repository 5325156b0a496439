/- The plain laws of minus, texts and parsed texts. Own work. -/
import Derived.Test.YtlnofclfpcmneaaPb
namespace Mx
open Go
theorem meet_canon (a b : Cu) : meetOk (canonM a) (canonM b) = meetOk a b := by
  obtain ⟨v0, m0⟩ := a
  obtain ⟨v1, m1⟩ := b
  rw [Bool.eq_iff_iff]
  simp only [canonM]
  rw [meet_bits, meet_bits]
  refine forall_congr' fun n => forall_congr' fun _ => ?_
  simp only [BitVec.getMsbD_and]
  cases v0.getMsbD n <;> cases m0.getMsbD n <;> cases v1.getMsbD n <;> cases m1.getMsbD n <;> simp
theorem meet_no {a b : Cu} (h : meetOk a b = false) (x : Hd) (ha : hasM a.1 a.2 x = true) : hasM b.1 b.2 x = false := by
  cases hb : hasM b.1 b.2 x
  · rfl
  · have : meetOk a b = true := by
      obtain ⟨v0, m0⟩ := a
      obtain ⟨v1, m1⟩ := b
      rw [has_bits] at ha hb
      refine (meet_bits _ _ _ _).2 fun n hn => ?_
      have h1 := ha n hn
      have h2 := hb n hn
      simp only at h1 h2
      cases e1 : m0.getMsbD n
      · simp
      · cases e2 : m1.getMsbD n
        · simp
        · rw [h1 e1, h2 e2]; simp
    rw [h] at this; cases this
/-- what the rest of 'minus' is like behind n bits -/
structure Rest (a b : Cu) (n : Nat) (st : Cu) : Prop where
  canon : isCanon st
  later : ∀ j, n ≤ j → j < 104 → st.2.getMsbD j = a.2.getMsbD j
theorem minus_rest (a b : Cu) : ∀ n, n ≤ 104 → Rest a b n (minusL a b n).2
  | 0, _ => ⟨canon_is a, fun _ _ _ => rfl⟩
  | n + 1, hn => by
    have ih := minus_rest a b n (by omega)
    simp only [minusL, minusAt]
    cases hc : bitM (minusL a b n).2.2 (n : Nat) || !bitM (canonM b).2 (n : Nat)
    · rw [cond_false]
      refine ⟨fix_is _ (by omega) _, fun j h1 h2 => ?_⟩
      simp only
      rw [fix_put _ (by omega)]
      simp only
      rw [put_msb _ (by omega) h2, if_neg (by omega)]
      exact ih.later j (by omega) h2
    · rw [cond_true]
      exact ⟨ih.canon, fun j h1 h2 => ih.later j (by omega) h2⟩
theorem rmin_eq (a b : Cu) : ∀ n, n ≤ 104 → rminL a b n = minusL a b n
  | 0, _ => rfl
  | n + 1, hn => by
    have ih := rmin_eq a b n (by omega)
    have hr := minus_rest a b n (by omega)
    simp only [minusL, minusAt, rminL, rminAt]
    rw [ih, at_free a.1 a.2 (by omega : n < 104), bit_nat _ (by omega), bit_nat _ (by omega), bit_nat _ (by omega), hr.later n (Nat.le_refl _) (by omega), canon2, canon1, at_two _ _ (by omega)]
    cases ha : a.2.getMsbD n
    · cases hb : b.2.getMsbD n
      · simp
      · have hat : atM b.1 b.2 (n : Nat) = bif b.1.getMsbD n then 1 else 0 := by
          unfold atM
          rw [bit_nat _ (by omega), bit_nat _ (by omega), hb, cond_true]
        simp only [Bool.not_false, Bool.and_self, cond_true, Bool.or_self, Bool.not_true, Bool.or_false, cond_false, Bool.and_true, hat]
        rw [fix_set _ (by omega : n < 104), fix_set _ (by omega : n < 104), canon_of hr.canon]
        cases b.1.getMsbD n <;> rfl
    · simp
theorem minus_eq (a b : Cu) : rminM a b = minusM a b := by
  rw [rminM, minusM, meet_canon, rmin_eq a b 104 (Nat.le_refl _)]
def one (b : Bool) : Nat := if b then 1 else 0
def hits (l : List Cu) (h : Hd) : Nat := l.countP fun c => hasM c.1 c.2 h
theorem minus_hits (a b : Cu) (h : Hd) : ∀ n, n ≤ 104 → hits (minusL a b n).1 h + one (hasM (minusL a b n).2.1 (minusL a b n).2.2 h) = one (hasM a.1 a.2 h)
  | 0, _ => by simp [minusL, hits, has_canon]
  | n + 1, hn => by
    have ih := minus_hits a b h n (by omega)
    have hr := minus_rest a b n (by omega)
    simp only [minusL, minusAt]
    cases hc : bitM (minusL a b n).2.2 (n : Nat) || !bitM (canonM b).2 (n : Nat)
    · rw [cond_false]
      rw [Bool.or_eq_false_iff, bit_nat _ (by omega)] at hc
      simp only
      rw [has_fix _ (by omega) _ _ hc.1]
      have e : hits ((minusL a b n).1 ++ [fixC (minusL a b n).2 (n : Nat) (!bitM (canonM b).1 (n : Nat))]) h = hits (minusL a b n).1 h + one (hasM (minusL a b n).2.1 (minusL a b n).2.2 h && (h.getMsbD n == !bitM (canonM b).1 (n : Nat))) := by
        simp only [hits, List.countP_append, List.countP_cons, List.countP_nil, has_fix _ (show n < 104 by omega) _ _ hc.1, one]
        simp
      rw [e, ← ih]
      cases hasM (minusL a b n).2.1 (minusL a b n).2.2 h <;> cases h.getMsbD n <;> cases bitM (canonM b).1 (n : Nat) <;> simp [one]
    · rw [cond_true]
      exact ih
theorem minus_last (a b : Cu) (h : Hd) (hok : meetOk a b = true) : ∀ n, n ≤ 104 → (hasM (minusL a b n).2.1 (minusL a b n).2.2 h = true ↔ hasM a.1 a.2 h = true ∧ ∀ j, j < n → b.2.getMsbD j = true → b.1.getMsbD j = h.getMsbD j)
  | 0, _ => by simp [minusL, has_canon]
  | n + 1, hn => by
    have ih := minus_last a b h hok n (by omega)
    have hr := minus_rest a b n (by omega)
    have hl := hr.later n (Nat.le_refl _) (by omega)
    have hm : (a.2.getMsbD n && b.2.getMsbD n && (a.1.getMsbD n ^^ b.1.getMsbD n)) = false := (meet_bits a.1 a.2 b.1 b.2).1 hok n (by omega)
    have split : (∀ j, j < n + 1 → b.2.getMsbD j = true → b.1.getMsbD j = h.getMsbD j) ↔ ((∀ j, j < n → b.2.getMsbD j = true → b.1.getMsbD j = h.getMsbD j) ∧ (b.2.getMsbD n = true → b.1.getMsbD n = h.getMsbD n)) :=
      ⟨fun x => ⟨fun j hj => x j (by omega), x n (by omega)⟩, fun x j hj hb => by
        by_cases e : j = n
        · subst e; exact x.2 hb
        · exact x.1 j (by omega) hb⟩
    rw [split]
    simp only [minusL, minusAt]
    cases hc : bitM (minusL a b n).2.2 (n : Nat) || !bitM (canonM b).2 (n : Nat)
    · rw [cond_false]
      rw [Bool.or_eq_false_iff, bit_nat _ (by omega), bit_nat _ (by omega), canon2] at hc
      simp only
      rw [has_fix _ (by omega) _ _ hc.1, Bool.and_eq_true, ih, beq_iff_eq, bit_nat _ (by omega), canon1]
      have hb : b.2.getMsbD n = true := by simpa using hc.2
      rw [hb, Bool.and_true, and_assoc]
      exact ⟨fun ⟨x, y, z⟩ => ⟨x, y, fun _ => z.symm⟩, fun ⟨x, y, z⟩ => ⟨x, y, (z rfl).symm⟩⟩
    · rw [cond_true]
      rw [ih]
      refine ⟨fun ⟨x, y⟩ => ⟨x, y, fun hb => ?_⟩, fun ⟨x, y, _⟩ => ⟨x, y⟩⟩
      rw [bit_nat _ (by omega), bit_nat _ (by omega), canon2, hb, hl] at hc
      have ha : a.2.getMsbD n = true := by simpa using hc
      rw [← (has_bits _ _ _).1 x n (by omega) ha]
      rw [ha, hb] at hm
      cases e1 : a.1.getMsbD n <;> cases e2 : b.1.getMsbD n <;> simp_all
theorem minus_count (a b : Cu) (h : Hd) : hits (minusM a b) h = one (hasM a.1 a.2 h && !hasM b.1 b.2 h) := by
  rw [minusM, meet_canon]
  cases hok : meetOk a b
  · rw [cond_false]
    have : hits [canonM a] h = one (hasM a.1 a.2 h) := by simp only [hits, List.countP_cons, List.countP_nil, has_canon, one]; simp
    rw [this]
    cases ha : hasM a.1 a.2 h
    · rfl
    · rw [meet_no hok h ha]; rfl
  · rw [cond_true]
    have h1 := minus_hits a b h 104 (Nat.le_refl _)
    have h2 := minus_last a b h hok 104 (Nat.le_refl _)
    have h3 : hasM (minusL a b 104).2.1 (minusL a b 104).2.2 h = (hasM a.1 a.2 h && hasM b.1 b.2 h) := by
      rw [Bool.eq_iff_iff, h2, Bool.and_eq_true, has_bits b.1]
    rw [h3] at h1
    revert h1
    cases hasM a.1 a.2 h <;> cases hasM b.1 b.2 h <;> simp [one] <;> omega
/-! ### texts -/
theorem str_size (l : List Int) : (strOf l).size = l.length := by
  unfold strOf
  have : ∀ (l : List Int) (r : ByteArray), (l.foldl (fun r n => r.push (UInt8.ofNat n.toNat)) r).size = r.size + l.length := by
    intro l
    induction l with
    | nil => intro r; simp
    | cons x l ih => intro r; rw [List.foldl_cons, ih, ByteArray.size_push, List.length_cons]; omega
  rw [this]; simp
theorem str_data (l : List Int) : (strOf l).data.toList = l.map fun n => UInt8.ofNat n.toNat := by
  unfold strOf
  have : ∀ (l : List Int) (r : ByteArray), (l.foldl (fun r n => r.push (UInt8.ofNat n.toNat)) r).data.toList = r.data.toList ++ l.map fun n => UInt8.ofNat n.toNat := by
    intro l
    induction l with
    | nil => intro r; simp
    | cons x l ih => intro r; rw [List.foldl_cons, ih]; simp [ByteArray.push]
  rw [this]; rfl
theorem byte_data (x : ByteArray) (k : Nat) (hk : k < x.size) : byteAt x (k : Nat) = ((x.data.toList[k]'hk).toNat : Int) := by
  unfold byteAt
  rw [Int.toNat_natCast]
  have : x[k]? = some (x.data.toList[k]'hk) := by
    rw [getElem?_pos x k hk]; rfl
  rw [this]; rfl
theorem byte_str (l : List Int) (k : Nat) (hk : k < l.length) (h0 : 0 ≤ l[k]) (h1 : l[k] < 256) : byteAt (strOf l) (k : Nat) = l[k] := by
  rw [byte_data _ k (by rw [str_size]; exact hk)]
  simp only [str_data, List.getElem_map]
  simp
  omega
theorem str_ext {x y : ByteArray} (h1 : x.size = y.size) (h : ∀ k, k < x.size → byteAt x (k : Nat) = byteAt y (k : Nat)) : x = y := by
  have : x.data.toList = y.data.toList := List.ext_getElem h1 fun k hk hk' => by
    have := h k hk
    rw [byte_data x k hk, byte_data y k hk'] at this
    exact UInt8.toNat_inj.1 (by omega)
  cases x; cases y
  simp only at this
  rw [Array.toList_inj.1 this]
theorem toList_inj {x y : ByteArray} : (x.toList == y.toList) = decide (x = y) := by
  rw [Bool.eq_iff_iff, beq_iff_eq, decide_eq_true_eq, ByteArray.toList_eq, ByteArray.toList_eq]
  exact ⟨fun h => by cases x; cases y; simp_all, fun h => by rw [h]⟩
theorem char_range (c : Cu) (k : Nat) : 0 ≤ charM c (k : Nat) ∧ charM c (k : Nat) < 256 := by
  unfold charM
  cases bitM c.2 (k : Nat) <;> cases bitM c.1 (k : Nat) <;> simp
theorem text_size (c : Cu) : (textM c).size = 104 := by rw [textM, str_size, chars_len]
theorem text_byte (c : Cu) (k : Nat) (hk : k < 104) : byteAt (textM c) (k : Nat) = charM c (k : Nat) := by
  have hl : k < (charsM c 104).length := by rw [chars_len]; exact hk
  have e : (charsM c 104)[k] = charM c (k : Nat) := by simp [charsM]
  have hr := char_range c k
  rw [textM, byte_str _ k hl (by rw [e]; exact hr.1) (by rw [e]; exact hr.2), e]
/-! ### parsed texts -/
theorem parse_canon (s : ByteArray) : ∀ n, n ≤ 104 → isCanon (parseL s n)
  | 0, _ => fun n _ h => by simp [parseL] at h
  | n + 1, hn => by
    simp only [parseL]
    cases byteAt s (n : Nat) == 48 || byteAt s (n : Nat) == 49
    · exact parse_canon s n (by omega)
    · exact fix_is _ (by omega) _
theorem parse_eq (s : ByteArray) : ∀ n, n ≤ 104 → rparseL s n = parseL s n
  | 0, _ => rfl
  | n + 1, hn => by
    simp only [parseL, rparseL]
    rw [parse_eq s n (by omega)]
    have hf : ∀ b : Bool, fixC (parseL s n) (n : Nat) b = (setV (parseL s n).1 (n : Nat) (bif b then 1 else 0), setK (parseL s n).2 (n : Nat) (bif b then 1 else 0)) := fun b => by
      rw [fix_set _ (by omega : n < 104), canon_of (parse_canon s n (by omega))]
    rw [hf]
    cases h1 : byteAt s (n : Nat) == 48
    · cases h2 : byteAt s (n : Nat) == 49 <;> rfl
    · have : (byteAt s (n : Nat) == 49) = false := by
        have : byteAt s (n : Nat) = 48 := by simpa using h1
        rw [this]; rfl
      rw [this]; rfl
/-- what is parsed, bit by bit -/
theorem parse_bits (s : ByteArray) : ∀ n, n ≤ 104 → ∀ j, j < 104 → (parseL s n).2.getMsbD j = (decide (j < n) && (byteAt s (j : Nat) == 48 || byteAt s (j : Nat) == 49)) ∧ (parseL s n).1.getMsbD j = (decide (j < n) && byteAt s (j : Nat) == 49)
  | 0, _ => fun j _ => by simp [parseL]
  | n + 1, hn => fun j hj => by
    obtain ⟨ih1, ih2⟩ := parse_bits s n (by omega) j hj
    simp only [parseL]
    have hd : j ≠ n → decide (j < n + 1) = decide (j < n) := fun hne => by
      rw [Bool.eq_iff_iff, decide_eq_true_eq, decide_eq_true_eq]; omega
    cases hc : byteAt s (n : Nat) == 48 || byteAt s (n : Nat) == 49
    · rw [cond_false, ih1, ih2]
      by_cases e : j = n
      · subst e
        rw [hc]
        rw [Bool.or_eq_false_iff] at hc
        rw [hc.2]; simp
      · rw [hd e]; exact ⟨rfl, rfl⟩
    · rw [cond_true, fix_put _ (by omega)]
      simp only
      rw [put_msb _ (by omega) hj, put_msb _ (by omega) hj, canon_of (parse_canon s n (by omega))]
      by_cases e : j = n
      · subst e
        rw [if_pos rfl, if_pos rfl, hc]; simp
      · rw [if_neg e, if_neg e, ih1, ih2, hd e]; exact ⟨rfl, rfl⟩
theorem parse_char (s : ByteArray) (k : Nat) (hk : k < 104) : (charM (parseL s 104) (k : Nat) == byteAt s (k : Nat)) = goodB s k := by
  obtain ⟨h1, h2⟩ := parse_bits s 104 (Nat.le_refl _) k hk
  unfold charM goodB
  rw [bit_nat _ hk, bit_nat _ hk, h1, h2]
  simp only [hk, decide_true, Bool.true_and]
  cases e1 : byteAt s (k : Nat) == 48 <;> cases e2 : byteAt s (k : Nat) == 49 <;> simp_all
  rw [Bool.eq_iff_iff, beq_iff_eq, beq_iff_eq]; exact eq_comm
theorem parse_ok_eq (s : ByteArray) : rparseOk s = parseOk s := by
  unfold rparseOk parseOk
  by_cases hs : s.size = 104
  · rw [hs, parse_eq s 104 (Nat.le_refl _), toList_inj]
    simp only [BEq.rfl, Bool.true_and]
    rw [Bool.eq_iff_iff, decide_eq_true_eq, List.all_eq_true]
    constructor
    · intro h k hk
      have hk := List.mem_range.1 hk
      rw [← parse_char s k hk, beq_iff_eq, ← text_byte _ k hk, h]
    · intro h
      refine str_ext (by rw [text_size, hs]) fun k hk => ?_
      rw [text_size] at hk
      rw [text_byte _ k hk]
      have := h k (List.mem_range.2 hk)
      rwa [← parse_char s k hk, beq_iff_eq] at this
  · have : (s.size == 104) = false := by simpa using hs
    rw [this]; rfl
theorem parseC_eq (s : ByteArray) : rparseC s = parseC s := by rw [rparseC, parseC, parse_ok_eq, parse_eq s 104 (Nat.le_refl _)]
theorem parseE_eq (s : ByteArray) : rparseE s = parseE s := by rw [rparseE, parseE, parse_ok_eq]
theorem text_good (c : Cu) (k : Nat) (hk : k < 104) : goodB (textM c) k = true := by
  unfold goodB
  rw [text_byte c k hk]
  unfold charM
  cases bitM c.2 (k : Nat) <;> cases bitM c.1 (k : Nat) <;> rfl
theorem text_ok (c : Cu) : parseOk (textM c) = true := by
  unfold parseOk
  rw [text_size, Bool.and_eq_true, List.all_eq_true]
  exact ⟨rfl, fun k hk => text_good c k (List.mem_range.1 hk)⟩
theorem text_parse (c : Cu) : parseC (textM c) = canonM c := by
  rw [parseC, text_ok, cond_true]
  refine cu_ext fun n hn => ?_
  obtain ⟨h1, h2⟩ := parse_bits (textM c) 104 (Nat.le_refl _) n hn
  rw [h1, h2, text_byte c n hn, canon1, canon2]
  unfold charM
  rw [bit_nat _ hn, bit_nat _ hn]
  simp only [hn, decide_true, Bool.true_and]
  cases c.1.getMsbD n <;> cases c.2.getMsbD n <;> exact ⟨rfl, rfl⟩
theorem text_err (c : Cu) : parseE (textM c) = 0 := by rw [parseE, text_ok]; rfl
end Mx
