/- Split, Meet. Own work. -/
import Derived.Test.YtlnofclfpcmneaaFd
namespace Mx
open Go Go.Proofs
def splitZ (c : Cu) (i : Int) : Cu := bif bitM c.2 i then (0, 0) else fixC c i false
def splitO (c : Cu) (i : Int) : Cu := bif bitM c.2 i then (0, 0) else fixC c i true
def splitE (c : Cu) (i : Int) : Int := bif bitM c.2 i then 3 else rangeE c i
def meetOk (a b : Cu) : Bool := ((a.1 &&& a.2) ^^^ (b.1 &&& b.2)) &&& a.2 &&& b.2 == 0
theorem meet_bytes (v0 m0 v1 m1 : Hd) : meetOk (v0, m0) (v1, m1) = true ↔ ∀ j, j < 13 → ((hbn (v0 &&& m0) j ^^^ hbn (v1 &&& m1) j) &&& hbn m0 j) &&& hbn m1 j = 0 := by
  unfold meetOk
  rw [beq_iff_eq]
  constructor
  · intro e k _
    rw [← hbn_xor, ← hbn_and, ← hbn_and, e, hbn_zero]
  · intro e
    refine hd_ext fun k hk => ?_
    rw [hbn_and, hbn_and, hbn_xor, e k hk, hbn_zero]
theorem hbn_or (x y : Hd) (k : Nat) : hbn (x ||| y) k = hbn x k ||| hbn y k := by
  unfold hbn
  rw [BitVec.toNat_or, Nat.shiftRight_or_distrib, show (256 : Nat) = 2 ^ 8 from rfl, Nat.or_mod_two_pow]
theorem or_byte (a b : Hd) (n : Nat) : bits .or .u8 (hb a n) (hb b n) = ((hbn a n ||| hbn b n : Nat) : Int) := by
  simp only [hb, Int.toNat_natCast]
  rw [or_u8 (hbn_lt' _ _) (hbn_lt' _ _)]
theorem or_lt (a b : Hd) (n : Nat) : hbn a n ||| hbn b n < 256 := Nat.or_lt_two_pow (n := 8) (hbn_lt' _ _) (hbn_lt' _ _)
theorem test_byte (a b c d : Hd) (n : Nat) : bits .and .u8 (bits .and .u8 (bits .xor .u8 (hb a n) (hb b n)) (hb c n)) (hb d n) = ((((hbn a n ^^^ hbn b n) &&& hbn c n) &&& hbn d n : Nat) : Int) := by
  simp only [hb, Int.toNat_natCast]
  have h1 : hbn a n ^^^ hbn b n < 256 := Nat.xor_lt_two_pow (n := 8) (hbn_lt' _ _) (hbn_lt' _ _)
  have h2 : (hbn a n ^^^ hbn b n) &&& hbn c n < 256 := Nat.lt_of_le_of_lt Nat.and_le_left h1
  rw [xor_u8 (hbn_lt' _ _) (hbn_lt' _ _), and_u8 h1 (hbn_lt' _ _), and_u8 h2 (hbn_lt' _ _)]
theorem meet_bits (v0 m0 v1 m1 : Hd) : meetOk (v0, m0) (v1, m1) = true ↔ ∀ j, j < 104 → (m0.getMsbD j && m1.getMsbD j && (v0.getMsbD j ^^ v1.getMsbD j)) = false := by
  unfold meetOk
  rw [beq_iff_eq]
  constructor
  · intro e j _
    have := congrArg (fun x : Hd => x.getMsbD j) e
    simp only [BitVec.getMsbD_and, BitVec.getMsbD_xor] at this
    have h0 : (0 : Hd).getMsbD j = false := by simp
    rw [h0] at this
    revert this
    cases v0.getMsbD j <;> cases m0.getMsbD j <;> cases v1.getMsbD j <;> cases m1.getMsbD j <;> simp
  · intro e
    refine hd_ext_msb fun j hj => ?_
    have h0 : (0 : Hd).getMsbD j = false := by simp
    simp only [BitVec.getMsbD_and, BitVec.getMsbD_xor, h0]
    have := e j hj
    revert this
    cases v0.getMsbD j <;> cases m0.getMsbD j <;> cases v1.getMsbD j <;> cases m1.getMsbD j <;> simp
theorem at_sum (v0 m0 v1 m1 : Hd) {n : Nat} (hn : n < 104) : (IntKind.i64.wrap (atM v0 m0 n + atM v1 m1 n) == 1) = (m0.getMsbD n && m1.getMsbD n && (v0.getMsbD n ^^ v1.getMsbD n)) := by
  unfold atM
  rw [bitM_nat m0 hn, bitM_nat v0 hn, bitM_nat m1 hn, bitM_nat v1 hn]
  cases v0.getMsbD n <;> cases m0.getMsbD n <;> cases v1.getMsbD n <;> cases m1.getMsbD n <;> rfl
theorem at_min (v0 m0 v1 m1 : Hd) {n : Nat} (hn : n < 104) (hc : (m0.getMsbD n && m1.getMsbD n && (v0.getMsbD n ^^ v1.getMsbD n)) = false) :
    ((bif decide (atM v1 m1 n < atM v0 m0 n) then atM v1 m1 n else atM v0 m0 n) == 1) = (m0.getMsbD n && v0.getMsbD n || m1.getMsbD n && v1.getMsbD n) ∧ ((bif decide (atM v1 m1 n < atM v0 m0 n) then atM v1 m1 n else atM v0 m0 n) != 2) = (m0.getMsbD n || m1.getMsbD n) := by
  revert hc
  unfold atM
  rw [bitM_nat m0 hn, bitM_nat v0 hn, bitM_nat m1 hn, bitM_nat v1 hn]
  cases v0.getMsbD n <;> cases m0.getMsbD n <;> cases v1.getMsbD n <;> cases m1.getMsbD n <;> simp
def meetC (a b : Cu) : Cu := bif meetOk a b then ((a.1 &&& a.2) ||| (b.1 &&& b.2), a.2 ||| b.2) else (0, 0)

def splitS (u : Lk) : Spec
  | [.pr (.hd v0) (.hd m0), .i .i64 n1] => some (True, (.tp (.pr (.hd (lk2 u (fun x0 x1 => (splitZ x0 x1).1) (v0, m0) n1)) (.hd (lk2 u (fun x0 x1 => (splitZ x0 x1).2) (v0, m0) n1))) (.tp (.pr (.hd (lk2 u (fun x0 x1 => (splitO x0 x1).1) (v0, m0) n1)) (.hd (lk2 u (fun x0 x1 => (splitO x0 x1).2) (v0, m0) n1))) (.i .i64 (lk2 u splitE (v0, m0) n1)))))
  | _ => none
theorem splitS_spec {u : Lk} {args : List SV} {q : Prop} {r : SV} (h : splitS u args = some (q, r)) : ∃ v0 m0 n1, args = [.pr (.hd v0) (.hd m0), .i .i64 n1] ∧ r = (.tp (.pr (.hd (lk2 u (fun x0 x1 => (splitZ x0 x1).1) (v0, m0) n1)) (.hd (lk2 u (fun x0 x1 => (splitZ x0 x1).2) (v0, m0) n1))) (.tp (.pr (.hd (lk2 u (fun x0 x1 => (splitO x0 x1).1) (v0, m0) n1)) (.hd (lk2 u (fun x0 x1 => (splitO x0 x1).2) (v0, m0) n1))) (.i .i64 (lk2 u splitE (v0, m0) n1)))) := by
  unfold splitS at h
  split at h
  · simp only [Option.some.injEq, Prod.mk.injEq] at h
    exact ⟨_, _, _, rfl, h.2.symm⟩
  · cases h

set_option maxRecDepth 100000 in
theorem walk65 (u : Lk) (v0 : Hd) (m0 : Hd) (n1 : Int) : Walk Try.f65 (Try.f65.body.getD .skip) [(107, bitS u), (63, fixS u)] u [.pr (.hd v0) (.hd m0), .i .i64 n1] (.tp (.pr (.hd (lk2 u (fun x0 x1 => (splitZ x0 x1).1) (v0, m0) n1)) (.hd (lk2 u (fun x0 x1 => (splitZ x0 x1).2) (v0, m0) n1))) (.tp (.pr (.hd (lk2 u (fun x0 x1 => (splitO x0 x1).1) (v0, m0) n1)) (.hd (lk2 u (fun x0 x1 => (splitO x0 x1).2) (v0, m0) n1))) (.i .i64 (lk2 u splitE (v0, m0) n1)))) := by
  intro L hL
  clear hL
  cbv
  obtain rfl := Lk.eq_std u
  simp only [Lk.std]
  cases hb : bitM m0 n1 <;> simp [splitZ, splitO, splitE, hb, rangeE, rangeE3]

theorem plain65 : Plainly Try.prog 65 := ⟨Try.f65, Try.func65, by kernel_rfl, by kernel_rfl⟩
theorem ok65 (u : Lk) : SpecOK Try.prog 65 (splitS u) := fun args q r h hq => by
  obtain ⟨v0, m0, n1, rfl, rfl⟩ := splitS_spec h
  exact fn_ok (u := u) Try.func65 rfl (fns_cons plain107 (ok107 u) (fns_cons plain63 (ok63 u) fns_nil)) rfl rfl (walk65 u v0 m0 n1)

def meetS (u : Lk) : Spec
  | [.pr (.hd v0) (.hd m0), .pr (.hd v1) (.hd m1)] => some (True, (.tp (.pr (.hd (lk2 u (fun x0 x1 => (meetC x0 x1).1) (v0, m0) (v1, m1))) (.hd (lk2 u (fun x0 x1 => (meetC x0 x1).2) (v0, m0) (v1, m1)))) (.b (lk2 u meetOk (v0, m0) (v1, m1)))))
  | _ => none
theorem meetS_spec {u : Lk} {args : List SV} {q : Prop} {r : SV} (h : meetS u args = some (q, r)) : ∃ v0 m0 v1 m1, args = [.pr (.hd v0) (.hd m0), .pr (.hd v1) (.hd m1)] ∧ r = (.tp (.pr (.hd (lk2 u (fun x0 x1 => (meetC x0 x1).1) (v0, m0) (v1, m1))) (.hd (lk2 u (fun x0 x1 => (meetC x0 x1).2) (v0, m0) (v1, m1)))) (.b (lk2 u meetOk (v0, m0) (v1, m1)))) := by
  unfold meetS at h
  split at h
  · simp only [Option.some.injEq, Prod.mk.injEq] at h
    exact ⟨_, _, _, _, rfl, h.2.symm⟩
  · cases h

set_option maxRecDepth 100000 in
theorem walk61 (u : Lk) (v0 : Hd) (m0 : Hd) (v1 : Hd) (m1 : Hd) : Walk Try.f61 (Try.f61.body.getD .skip) [(73, canonS u)] u [.pr (.hd v0) (.hd m0), .pr (.hd v1) (.hd m1)] (.tp (.pr (.hd (lk2 u (fun x0 x1 => (meetC x0 x1).1) (v0, m0) (v1, m1))) (.hd (lk2 u (fun x0 x1 => (meetC x0 x1).2) (v0, m0) (v1, m1)))) (.b (lk2 u meetOk (v0, m0) (v1, m1)))) := by
  intro L hL
  cbv
  refine hL (Int × Cu) (fun s => 0 ≤ s.1 ∧ s.1 ≤ 13 ∧ ∀ j : Nat, j < 13 → (hbn s.2.1 j = if j < s.1.toNat then hbn (v0 &&& m0) j ||| hbn (v1 &&& m1) j else 0) ∧ (hbn s.2.2 j = if j < s.1.toNat then hbn m0 j ||| hbn m1 j else 0) ∧ (j < s.1.toNat → ((hbn (v0 &&& m0) j ^^^ hbn (v1 &&& m1) j) &&& hbn m0 j) &&& hbn m1 j = 0)) (fun s => (13 - s.1).toNat)
    (fun s => ⟨[(12, .i .i64 s.1), (6, .p 6 [] 0), (5, .b false), (4, .p 4 [] 0), (3, .p 3 [] 0), (2, .p 2 [] 0)], [(6, .box 36 (.pr (.hd s.2.1) (.hd s.2.2))), (3, .box 36 (.pr (.hd (lk1 u (fun x0 => (canonM x0).1) (v1, m1))) (.hd (lk1 u (fun x0 => (canonM x0).2) (v1, m1))))), (2, .box 36 (.pr (.hd (lk1 u (fun x0 => (canonM x0).1) (v0, m0))) (.hd (lk1 u (fun x0 => (canonM x0).2) (v0, m0))))), (4, .box 36 (.pr (.hd 0) (.hd 0)))]⟩) _ _ _ (0, (0, 0)) ?_ ?_ ?_ ?_
  · intro l st hk
    exact hk
  · exact ⟨by simp, by simp, fun j hj => ⟨by simpa using hbn_zero j, by simpa using hbn_zero j, by simp⟩⟩
  · cbv
  · rintro ⟨k, x, y⟩ hk
    cbv
    obtain rfl := Lk.eq_std u
    simp only [Lk.std, canonM]
    obtain ⟨h0, h1, hj⟩ := hk
    simp only at h0 h1 hj
    obtain ⟨n, rfl⟩ := Int.eq_ofNat_of_zero_le h0
    rw [test_byte, or_byte, or_byte]
    have l1 := or_lt (v0 &&& m0) (v1 &&& m1) n
    have l2 := or_lt m0 m1 n
    have b1 : (0 : Int) ≤ ((hbn (v0 &&& m0) n ||| hbn (v1 &&& m1) n : Nat) : Int) ∧ ((hbn (v0 &&& m0) n ||| hbn (v1 &&& m1) n : Nat) : Int) < 256 := by omega
    have b2 : (0 : Int) ≤ ((hbn m0 n ||| hbn m1 n : Nat) : Int) ∧ ((hbn m0 n ||| hbn m1 n : Nat) : Int) < 256 := by omega
    refine ⟨fun hlt => ?_, fun hge => ?_⟩
    · have hlt : (n : Int) < 13 := by simpa using hlt
      refine ⟨by simp only [h0, hlt, and_self], fun hne => ?_, fun he => ?_⟩
      · have hno : meetOk (v0, m0) (v1, m1) = false := by
          cases hh : meetOk (v0, m0) (v1, m1) with
          | false => rfl
          | true =>
            have := (meet_bytes v0 m0 v1 m1).1 hh n (by omega)
            rw [this] at hne; simp at hne
        simp [meetC, hno]
      · have he : ((hbn (v0 &&& m0) n ^^^ hbn (v1 &&& m1) n) &&& hbn m0 n) &&& hbn m1 n = 0 := by
          have : ((((hbn (v0 &&& m0) n ^^^ hbn (v1 &&& m1) n) &&& hbn m0 n) &&& hbn m1 n : Nat) : Int) = 0 := by simpa using he
          omega
        rw [i_lt13 (by omega) hlt]
        refine ⟨by simp only [h0, hlt, b1.1, b1.2, and_self], by simp only [h0, hlt, b2.1, b2.2, and_self], ((n : Int) + 1, (setHb x n ((hbn (v0 &&& m0) n ||| hbn (v1 &&& m1) n : Nat) : Int), setHb y n ((hbn m0 n ||| hbn m1 n : Nat) : Int))), ⟨by simp only; omega, by simp only; omega, fun j hj' => ?_⟩, by simp only; omega, ?_⟩
        · obtain ⟨e1, e2, e3⟩ := hj j hj'
          simp only
          rw [hbn_setHb x n _ j hj' ⟨by omega, by omega⟩, hbn_setHb y n _ j hj' ⟨by omega, by omega⟩, e1, e2]
          by_cases hjn : j = n
          · subst hjn
            rw [if_pos rfl, if_pos rfl, if_pos (by omega), if_pos (by omega), Int.toNat_natCast, Int.toNat_natCast]
            exact ⟨rfl, rfl, fun _ => he⟩
          · rw [if_neg hjn, if_neg hjn]
            by_cases hjl : j < n
            · rw [if_pos (by omega), if_pos (by omega), if_pos (by omega), if_pos (by omega)]; exact ⟨rfl, rfl, fun _ => e3 (by omega)⟩
            · rw [if_neg (by omega), if_neg (by omega), if_neg (by omega), if_neg (by omega)]; exact ⟨rfl, rfl, fun h => by omega⟩
        · exact ⟨⟨rfl, rfl, rfl, rfl, rfl, rfl, trivial⟩, rfl, rfl, rfl, rfl, trivial⟩
    · have hge : ¬ (n : Int) < 13 := by simpa using hge
      have hyes : meetOk (v0, m0) (v1, m1) = true := (meet_bytes v0 m0 v1 m1).2 fun j hj' => (hj j hj').2.2 (by omega)
      have hx : x = (v0 &&& m0) ||| (v1 &&& m1) := hd_ext fun j hj' => by rw [(hj j hj').1, if_pos (by omega), hbn_or]
      have hy : y = m0 ||| m1 := hd_ext fun j hj' => by rw [(hj j hj').2.1, if_pos (by omega), hbn_or]
      simp [meetC, hyes, hx, hy]

theorem plain61 : Plainly Try.prog 61 := ⟨Try.f61, Try.func61, by kernel_rfl, by kernel_rfl⟩
theorem ok61 (u : Lk) : SpecOK Try.prog 61 (meetS u) := fun args q r h hq => by
  obtain ⟨v0, m0, v1, m1, rfl, rfl⟩ := meetS_spec h
  exact fn_ok (u := u) Try.func61 rfl (fns_cons plain73 (ok73 u) fns_nil) rfl rfl (walk61 u v0 m0 v1 m1)



set_option maxRecDepth 100000 in
theorem walk62 (u : Lk) (v0 : Hd) (m0 : Hd) (v1 : Hd) (m1 : Hd) : Walk Try.f62 (Try.f62.body.getD .skip) [(56, atS u), (57, setS u)] u [.pr (.hd v0) (.hd m0), .pr (.hd v1) (.hd m1)] (.tp (.pr (.hd (lk2 u (fun x0 x1 => (meetC x0 x1).1) (v0, m0) (v1, m1))) (.hd (lk2 u (fun x0 x1 => (meetC x0 x1).2) (v0, m0) (v1, m1)))) (.b (lk2 u meetOk (v0, m0) (v1, m1)))) := by
  intro L hL
  cbv
  refine hL (Int × Cu) (fun s => 0 ≤ s.1 ∧ s.1 ≤ 104 ∧ ∀ j : Nat, j < 104 → (s.2.1.getMsbD j = if j < s.1.toNat then (m0.getMsbD j && v0.getMsbD j || m1.getMsbD j && v1.getMsbD j) else false) ∧ (s.2.2.getMsbD j = if j < s.1.toNat then (m0.getMsbD j || m1.getMsbD j) else false) ∧ (j < s.1.toNat → (m0.getMsbD j && m1.getMsbD j && (v0.getMsbD j ^^ v1.getMsbD j)) = false)) (fun s => (104 - s.1).toNat)
    (fun s => ⟨[(7, .i .i64 s.1), (6, .p 6 [] 0), (5, .b false), (4, .p 4 [] 0), (3, .p 3 [] 0), (2, .p 2 [] 0)], [(6, .box 36 (.pr (.hd s.2.1) (.hd s.2.2))), (3, .box 36 (.pr (.hd v1) (.hd m1))), (2, .box 36 (.pr (.hd v0) (.hd m0))), (4, .box 36 (.pr (.hd 0) (.hd 0)))]⟩) _ _ _ (0, (0, 0)) ?_ ?_ ?_ ?_
  · intro l st hk
    exact hk
  · exact ⟨by simp, by simp, fun j hj => by simp⟩
  · cbv
  · rintro ⟨k, x, y⟩ hk
    cbv
    obtain rfl := Lk.eq_std u
    simp only [Lk.std]
    obtain ⟨h0, h1, hj⟩ := hk
    simp only at h0 h1 hj
    obtain ⟨n, rfl⟩ := Int.eq_ofNat_of_zero_le h0
    refine ⟨fun hlt => ?_, fun hge => ?_⟩
    · have hlt : (n : Int) < 104 := by simpa using hlt
      have hsum := at_sum v0 m0 v1 m1 (n := n) (by omega)
      refine ⟨fun hne => ?_, fun he => ?_⟩
      · have hne := hsum.symm.trans hne
        have hno : meetOk (v0, m0) (v1, m1) = false := by
          cases hh : meetOk (v0, m0) (v1, m1) with
          | false => rfl
          | true => rw [(meet_bits v0 m0 v1 m1).1 hh n (by omega)] at hne; cases hne
        simp [meetC, hno]
      · have he := hsum.symm.trans he
        obtain ⟨f1, f2⟩ := at_min v0 m0 v1 m1 (n := n) (by omega) he
        rw [wrap_i64 (n := (n : Int) + 1) (by omega) (by omega)]
        refine ⟨((n : Int) + 1, (setV x n (bif decide (atM v1 m1 n < atM v0 m0 n) then atM v1 m1 n else atM v0 m0 n), setK y n (bif decide (atM v1 m1 n < atM v0 m0 n) then atM v1 m1 n else atM v0 m0 n))), ⟨by simp only; omega, by simp only; omega, fun j hj' => ?_⟩, by simp only; omega, ⟨rfl, rfl, rfl, rfl, rfl, rfl, trivial⟩, rfl, rfl, rfl, rfl, trivial⟩
        obtain ⟨e1, e2, e3⟩ := hj j hj'
        simp only
        rw [setV, setK, put_msb _ (by omega) hj', put_msb _ (by omega) hj', f1, f2, e1, e2]
        by_cases hjn : j = n
        · subst hjn
          rw [if_pos rfl, if_pos rfl, if_pos (by omega), if_pos (by omega)]
          exact ⟨rfl, rfl, fun _ => he⟩
        · rw [if_neg hjn, if_neg hjn]
          by_cases hjl : j < n
          · rw [if_pos (by omega), if_pos (by omega), if_pos (by omega), if_pos (by omega)]; exact ⟨rfl, rfl, fun _ => e3 (by omega)⟩
          · rw [if_neg (by omega), if_neg (by omega), if_neg (by omega), if_neg (by omega)]; exact ⟨rfl, rfl, fun h => by omega⟩
    · have hge : ¬ (n : Int) < 104 := by simpa using hge
      have hyes : meetOk (v0, m0) (v1, m1) = true := (meet_bits v0 m0 v1 m1).2 fun j hj' => (hj j hj').2.2 (by omega)
      have hx : x = (v0 &&& m0) ||| (v1 &&& m1) := hd_ext_msb fun j hj' => by rw [(hj j hj').1, if_pos (by omega), BitVec.getMsbD_or, BitVec.getMsbD_and, BitVec.getMsbD_and, Bool.and_comm, Bool.and_comm (v1.getMsbD j)]
      have hy : y = m0 ||| m1 := hd_ext_msb fun j hj' => by rw [(hj j hj').2.1, if_pos (by omega), BitVec.getMsbD_or]
      simp [meetC, hyes, hx, hy]

theorem plain62 : Plainly Try.prog 62 := ⟨Try.f62, Try.func62, by kernel_rfl, by kernel_rfl⟩
theorem ok62 (u : Lk) : SpecOK Try.prog 62 (meetS u) := fun args q r h hq => by
  obtain ⟨v0, m0, v1, m1, rfl, rfl⟩ := meetS_spec h
  exact fn_ok (u := u) Try.func62 rfl (fns_cons plain56 (ok56 u) (fns_cons plain57 (ok57 u) fns_nil)) rfl rfl (walk62 u v0 m0 v1 m1)



end Mx
