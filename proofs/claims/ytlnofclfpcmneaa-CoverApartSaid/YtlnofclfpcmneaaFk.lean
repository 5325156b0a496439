/- Of, Within, Ends, Free, Same, in both. Own work. -/
import Derived.Test.YtlnofclfpcmneaaFi
namespace Mx
open Go Go.Proofs
def ones : Hd := BitVec.allOnes 104
theorem hbn_not (x : Hd) {k : Nat} (hk : k < 13) : hbn (~~~x) k = 255 ^^^ hbn x k := by
  apply Nat.eq_of_testBit_eq
  intro j
  by_cases hj : j < 8
  · have e1 := hbn_bit (~~~x) hk (j := 7 - j) (by omega)
    have e2 := hbn_bit x hk (j := 7 - j) (by omega)
    rw [show 7 - (7 - j) = j by omega] at e1 e2
    rw [e1, Nat.testBit_xor, e2, BitVec.getMsbD_not]
    have h1 : 8 * k + (7 - j) < 104 := by omega
    have h2 : (255 : Nat).testBit j = true := by
      rw [show (255 : Nat) = 2 ^ 8 - 1 from rfl, Nat.testBit_two_pow_sub_one]; simpa using hj
    simp [h1, h2]
  · have h1 : ∀ n, n < 256 → n.testBit j = false := fun n hn => Nat.testBit_lt_two_pow (Nat.lt_of_lt_of_le hn (show 256 ≤ 2 ^ j from Nat.pow_le_pow_right (n := 2) (by omega) (show 8 ≤ j by omega)))
    rw [h1 _ (hbn_lt' _ _), h1 _ (Nat.xor_lt_two_pow (n := 8) (by omega) (hbn_lt' _ _))]
theorem hbn_ones {k : Nat} (hk : k < 13) : hbn ones k = 255 := by
  rw [show ones = ~~~(0 : Hd) from by simp [ones], hbn_not 0 hk]; simp [hbn]
def hiM (c : Cu) : Hd := (c.1 &&& c.2) ||| ~~~c.2
def loM (c : Cu) : Hd := c.1 &&& c.2
theorem hi_byte (m : Hd) (x n : Nat) (hx : x < 256) (hn : n < 13) : bits .or .u8 (x : Int) (bits .xor .u8 255 (hb m n)) = ((x ||| hbn (~~~m) n : Nat) : Int) := by
  rw [hb, Int.toNat_natCast, show (255 : Int) = ((255 : Nat) : Int) from rfl, xor_u8 (by omega) (hbn_lt' _ _), or_u8 hx (Nat.xor_lt_two_pow (n := 8) (by omega) (hbn_lt' _ _)), hbn_not m hn]

def ofS (u : Lk) : Spec
  | [.hd h0] => some (True, (.pr (.hd (lk1 u (fun x0 => ((fun h : Hd => ((h, ones) : Cu)) x0).1) h0)) (.hd (lk1 u (fun x0 => ((fun h : Hd => ((h, ones) : Cu)) x0).2) h0))))
  | _ => none
theorem ofS_spec {u : Lk} {args : List SV} {q : Prop} {r : SV} (h : ofS u args = some (q, r)) : ∃ h0, args = [.hd h0] ∧ r = (.pr (.hd (lk1 u (fun x0 => ((fun h : Hd => ((h, ones) : Cu)) x0).1) h0)) (.hd (lk1 u (fun x0 => ((fun h : Hd => ((h, ones) : Cu)) x0).2) h0))) := by
  unfold ofS at h
  split at h
  · simp only [Option.some.injEq, Prod.mk.injEq] at h
    exact ⟨_, rfl, h.2.symm⟩
  · cases h

set_option maxRecDepth 100000 in
theorem walk75 (u : Lk) (h0 : Hd) : Walk Try.f75 (Try.f75.body.getD .skip) [] u [.hd h0] (.pr (.hd (lk1 u (fun x0 => ((fun h : Hd => ((h, ones) : Cu)) x0).1) h0)) (.hd (lk1 u (fun x0 => ((fun h : Hd => ((h, ones) : Cu)) x0).2) h0))) := by
  intro L hL
  cbv
  refine hL (Int × Hd) (fun s => 0 ≤ s.1 ∧ s.1 ≤ 13 ∧ ∀ j : Nat, j < 13 → hbn s.2 j = if j < s.1.toNat then 255 else 0) (fun s => (13 - s.1).toNat)
    (fun s => ⟨[(7, .i .i64 s.1), (3, .p 3 [] 0), (2, .p 2 [] 0), (1, .p 1 [] 0)], [(3, .box 36 (.pr (.hd h0) (.hd s.2))), (2, .box 36 (.pr (.hd 0) (.hd 0))), (1, .box 34 (.hd h0))]⟩) _ _ _ (0, 0) ?_ ?_ ?_ ?_
  · intro l st hk
    exact hk
  · exact ⟨by simp, by simp, fun j hj => by simp [hbn]⟩
  · cbv
  · rintro ⟨k, x⟩ hk
    cbv
    obtain rfl := Lk.eq_std u
    simp only [Lk.std]
    obtain ⟨h0', h1, hj⟩ := hk
    simp only at h0' h1 hj
    obtain ⟨n, rfl⟩ := Int.eq_ofNat_of_zero_le h0'
    refine ⟨fun hlt => ?_, fun hge => ?_⟩
    · have hlt : (n : Int) < 13 := by simpa using hlt
      refine ⟨by (repeat' first | exact trivial | omega | refine ⟨?_, ?_⟩), ?_⟩
      rw [i_lt13 (by omega) hlt]
      refine ⟨((n : Int) + 1, setHb x n 255), ⟨by simp only; omega, by simp only; omega, fun j hj' => ?_⟩, by simp only; omega, ?_⟩
      · simp only
        rw [hbn_setHb x n _ j hj' ⟨by omega, by omega⟩, hj j hj']
        by_cases hjn : j = n
        · subst hjn
          rw [if_pos rfl, if_pos (by omega)]; rfl
        · rw [if_neg hjn]
          by_cases hjl : j < n
          · rw [if_pos (by omega), if_pos (by omega)]
          · rw [if_neg (by omega), if_neg (by omega)]
      · (repeat' first | exact trivial | rfl | refine ⟨?_, ?_⟩)
    · have hge : ¬ (n : Int) < 13 := by simpa using hge
      have hx : x = ones := hd_ext fun j hj' => by rw [hj j hj', if_pos (by omega), hbn_ones hj']
      rw [hx]

theorem plain75 : Plainly Try.prog 75 := ⟨Try.f75, Try.func75, by kernel_rfl, by kernel_rfl⟩
theorem ok75 (u : Lk) : SpecOK Try.prog 75 (ofS u) := fun args q r h hq => by
  obtain ⟨h0, rfl, rfl⟩ := ofS_spec h
  exact fn_ok (u := u) Try.func75 rfl fns_nil rfl rfl (walk75 u h0)

def withinM (a b : Cu) : Bool := meetOk a b && (meetC a b == canonM a)

def withinS (u : Lk) : Spec
  | [.pr (.hd v0) (.hd m0), .pr (.hd v1) (.hd m1)] => some (True, (.b (lk2 u withinM (v0, m0) (v1, m1))))
  | _ => none
theorem withinS_spec {u : Lk} {args : List SV} {q : Prop} {r : SV} (h : withinS u args = some (q, r)) : ∃ v0 m0 v1 m1, args = [.pr (.hd v0) (.hd m0), .pr (.hd v1) (.hd m1)] ∧ r = (.b (lk2 u withinM (v0, m0) (v1, m1))) := by
  unfold withinS at h
  split at h
  · simp only [Option.some.injEq, Prod.mk.injEq] at h
    exact ⟨_, _, _, _, rfl, h.2.symm⟩
  · cases h

set_option maxRecDepth 100000 in
theorem walk55 (u : Lk) (v0 : Hd) (m0 : Hd) (v1 : Hd) (m1 : Hd) : Walk Try.f55 (Try.f55.body.getD .skip) [(61, meetS u), (73, canonS u)] u [.pr (.hd v0) (.hd m0), .pr (.hd v1) (.hd m1)] (.b (lk2 u withinM (v0, m0) (v1, m1))) := by
  intro L hL
  clear hL
  cbv
  obtain rfl := Lk.eq_std u
  simp only [Lk.std]
  cases h : meetOk (v0, m0) (v1, m1) <;> simp [withinM, h, eqv] <;> rfl

theorem plain55 : Plainly Try.prog 55 := ⟨Try.f55, Try.func55, by kernel_rfl, by kernel_rfl⟩
theorem ok55 (u : Lk) : SpecOK Try.prog 55 (withinS u) := fun args q r h hq => by
  obtain ⟨v0, m0, v1, m1, rfl, rfl⟩ := withinS_spec h
  exact fn_ok (u := u) Try.func55 rfl (fns_cons plain61 (ok61 u) (fns_cons plain73 (ok73 u) fns_nil)) rfl rfl (walk55 u v0 m0 v1 m1)

def rwithinM (a b : Cu) : Bool := (List.range 104).all fun i => (atM b.1 b.2 (i : Nat) == 2) || (atM a.1 a.2 (i : Nat) == atM b.1 b.2 (i : Nat))

def rwithinS (u : Lk) : Spec
  | [.pr (.hd v0) (.hd m0), .pr (.hd v1) (.hd m1)] => some (True, (.b (lk2 u rwithinM (v0, m0) (v1, m1))))
  | _ => none
theorem rwithinS_spec {u : Lk} {args : List SV} {q : Prop} {r : SV} (h : rwithinS u args = some (q, r)) : ∃ v0 m0 v1 m1, args = [.pr (.hd v0) (.hd m0), .pr (.hd v1) (.hd m1)] ∧ r = (.b (lk2 u rwithinM (v0, m0) (v1, m1))) := by
  unfold rwithinS at h
  split at h
  · simp only [Option.some.injEq, Prod.mk.injEq] at h
    exact ⟨_, _, _, _, rfl, h.2.symm⟩
  · cases h

set_option maxRecDepth 100000 in
theorem walk71 (u : Lk) (v0 : Hd) (m0 : Hd) (v1 : Hd) (m1 : Hd) : Walk Try.f71 (Try.f71.body.getD .skip) [(56, atS u)] u [.pr (.hd v0) (.hd m0), .pr (.hd v1) (.hd m1)] (.b (lk2 u rwithinM (v0, m0) (v1, m1))) := by
  intro L hL
  cbv
  refine hL Nat (fun k => k ≤ 104 ∧ ∀ j, j < k → ((atM v1 m1 (j : Nat) == 2) || (atM v0 m0 (j : Nat) == atM v1 m1 (j : Nat))) = true) (fun k => 104 - k)
    (fun k => ⟨[(5, .i .i64 (lk1 u (fun (k : Nat) => (k : Int)) k)), (3, .p 3 [] 0), (2, .p 2 [] 0)], [(3, .box 36 (.pr (.hd v1) (.hd m1))), (2, .box 36 (.pr (.hd v0) (.hd m0)))]⟩) _ _ _ 0 ?_ ?_ ?_ ?_
  · intro l st hk
    exact hk
  · exact ⟨by simp, fun j hj => by omega⟩
  · cbv
    obtain rfl := Lk.eq_std u
    simp only [Lk.std]
    (repeat' first | exact trivial | rfl | refine ⟨?_, ?_⟩)
  · rintro k ⟨hk, hj⟩
    cbv
    obtain rfl := Lk.eq_std u
    simp only [Lk.std]
    refine ⟨fun hlt => ?_, fun hge => ?_⟩
    · have hlt : (k : Int) < 104 := by simpa using hlt
      have hw : IntKind.i64.wrap (Int.ofNat k + 1) = ((k + 1 : Nat) : Int) := by
        show IntKind.i64.wrap ((k : Int) + 1) = _
        rw [wrap_i64 (by omega) (by omega)]; omega
      rw [hw]
      refine ⟨by simp, fun hb => ?_, fun hb => ?_⟩
      · have hb' : ((atM v1 m1 (k : Nat) == 2) || (atM v0 m0 (k : Nat) == atM v1 m1 (k : Nat))) = false := by
          cases e1 : (atM v1 m1 (k : Nat) == 2) <;> cases e2 : (atM v0 m0 (k : Nat) == atM v1 m1 (k : Nat)) <;> simp_all
        have : rwithinM (v0, m0) (v1, m1) = false := by
          unfold rwithinM
          rw [List.all_eq_false]
          exact ⟨k, by simp; omega, by simp only [hb']; simp⟩
        rw [this]
      · have hb' : ((atM v1 m1 (k : Nat) == 2) || (atM v0 m0 (k : Nat) == atM v1 m1 (k : Nat))) = true := by
          cases e1 : (atM v1 m1 (k : Nat) == 2) <;> cases e2 : (atM v0 m0 (k : Nat) == atM v1 m1 (k : Nat)) <;> simp_all
        refine ⟨k + 1, ⟨by omega, fun j hj' => ?_⟩, by omega, by (repeat' first | exact trivial | rfl | refine ⟨?_, ?_⟩)⟩
        by_cases hjk : j = k
        · subst hjk; exact hb'
        · exact hj j (by omega)
    · have hge : ¬ (k : Int) < 104 := by simpa using hge
      have : rwithinM (v0, m0) (v1, m1) = true := by
        unfold rwithinM
        rw [List.all_eq_true]
        intro j hj'
        exact hj j (by have := List.mem_range.1 hj'; omega)
      rw [this]

theorem plain71 : Plainly Try.prog 71 := ⟨Try.f71, Try.func71, by kernel_rfl, by kernel_rfl⟩
theorem ok71 (u : Lk) : SpecOK Try.prog 71 (rwithinS u) := fun args q r h hq => by
  obtain ⟨v0, m0, v1, m1, rfl, rfl⟩ := rwithinS_spec h
  exact fn_ok (u := u) Try.func71 rfl (fns_cons plain56 (ok56 u) fns_nil) rfl rfl (walk71 u v0 m0 v1 m1)

def endsS (u : Lk) : Spec
  | [.pr (.hd v0) (.hd m0)] => some (True, (.tp (.hd (lk1 u loM (v0, m0))) (.hd (lk1 u hiM (v0, m0)))))
  | _ => none
theorem endsS_spec {u : Lk} {args : List SV} {q : Prop} {r : SV} (h : endsS u args = some (q, r)) : ∃ v0 m0, args = [.pr (.hd v0) (.hd m0)] ∧ r = (.tp (.hd (lk1 u loM (v0, m0))) (.hd (lk1 u hiM (v0, m0)))) := by
  unfold endsS at h
  split at h
  · simp only [Option.some.injEq, Prod.mk.injEq] at h
    exact ⟨_, _, rfl, h.2.symm⟩
  · cases h

set_option maxRecDepth 100000 in
theorem walk76 (u : Lk) (v0 : Hd) (m0 : Hd) : Walk Try.f76 (Try.f76.body.getD .skip) [(73, canonS u)] u [.pr (.hd v0) (.hd m0)] (.tp (.hd (lk1 u loM (v0, m0))) (.hd (lk1 u hiM (v0, m0)))) := by
  intro L hL
  cbv
  refine hL (Int × Hd) (fun s => 0 ≤ s.1 ∧ s.1 ≤ 13 ∧ ∀ j : Nat, j < 13 → hbn s.2 j = if j < s.1.toNat then hbn (v0 &&& m0) j ||| hbn (~~~m0) j else hbn (v0 &&& m0) j) (fun s => (13 - s.1).toNat)
    (fun s => ⟨[(13, .i .i64 s.1), (12, .hd (lk1 u (fun x0 => (canonM x0).2) (v0, m0))), (4, .p 4 [] 0), (3, .p 3 [] 0), (2, .p 2 [] 0), (1, .p 1 [] 0)], [(4, .box 34 (.hd s.2)), (3, .box 34 (.hd 0)), (2, .box 34 (.hd 0)), (1, .box 36 (.pr (.hd (lk1 u (fun x0 => (canonM x0).1) (v0, m0))) (.hd (lk1 u (fun x0 => (canonM x0).2) (v0, m0)))))]⟩) _ _ _ (0, lk1 u (fun x0 => (canonM x0).1) (v0, m0)) ?_ ?_ ?_ ?_
  · intro l st hk
    exact hk
  · exact ⟨by simp, by simp, fun j hj => by obtain rfl := Lk.eq_std u; simp [Lk.std, lk1, canonM]⟩
  · cbv
  · rintro ⟨k, x⟩ hk
    cbv
    obtain rfl := Lk.eq_std u
    simp only [Lk.std]
    obtain ⟨h0, h1, hj⟩ := hk
    simp only at h0 h1 hj
    obtain ⟨n, rfl⟩ := Int.eq_ofNat_of_zero_le h0
    refine ⟨fun hlt => ?_, fun hge => ?_⟩
    · have hlt : (n : Int) < 13 := by simpa using hlt
      have e := hi_byte m0 (hbn x n) n (hbn_lt' _ _) (by omega)
      have e' : bits .or .u8 (hb x n) (bits .xor .u8 255 (hb (canonM (v0, m0)).2 n)) = ((hbn x n ||| hbn (~~~m0) n : Nat) : Int) := by
        rw [show (canonM (v0, m0)).2 = m0 from rfl, ← e]; simp [hb]
      rw [e']
      have hlt2 := Nat.or_lt_two_pow (n := 8) (hbn_lt' x n) (hbn_lt' (~~~m0) n)
      refine ⟨by (repeat' first | exact trivial | omega | refine ⟨?_, ?_⟩), by (repeat' first | exact trivial | omega | refine ⟨?_, ?_⟩), ?_⟩
      rw [i_lt13 (by omega) hlt]
      refine ⟨((n : Int) + 1, setHb x n ((hbn x n ||| hbn (~~~m0) n : Nat) : Int)), ⟨by simp only; omega, by simp only; omega, fun j hj' => ?_⟩, by simp only; omega, ?_⟩
      · simp only
        rw [hbn_setHb x n _ j hj' ⟨by omega, by omega⟩, hj j hj']
        by_cases hjn : j = n
        · subst hjn
          rw [if_pos rfl, if_pos (by omega), Int.toNat_natCast, hj j hj', if_neg (by omega)]
        · rw [if_neg hjn]
          by_cases hjl : j < n
          · rw [if_pos (by omega), if_pos (by omega)]
          · rw [if_neg (by omega), if_neg (by omega)]
      · (repeat' first | exact trivial | rfl | refine ⟨?_, ?_⟩)
    · have hge : ¬ (n : Int) < 13 := by simpa using hge
      have hx : x = hiM (v0, m0) := hd_ext fun j hj' => by rw [hj j hj', if_pos (by omega), hiM, hbn_or]
      rw [hx]
      all_goals exact ⟨rfl, rfl⟩

theorem plain76 : Plainly Try.prog 76 := ⟨Try.f76, Try.func76, by kernel_rfl, by kernel_rfl⟩
theorem ok76 (u : Lk) : SpecOK Try.prog 76 (endsS u) := fun args q r h hq => by
  obtain ⟨v0, m0, rfl, rfl⟩ := endsS_spec h
  exact fn_ok (u := u) Try.func76 rfl (fns_cons plain73 (ok73 u) fns_nil) rfl rfl (walk76 u v0 m0)

set_option maxRecDepth 100000 in
theorem walk77 (u : Lk) (v0 : Hd) (m0 : Hd) : Walk Try.f77 (Try.f77.body.getD .skip) [(56, atS u), (112, putS u)] u [.pr (.hd v0) (.hd m0)] (.tp (.hd (lk1 u loM (v0, m0))) (.hd (lk1 u hiM (v0, m0)))) := by
  intro L hL
  cbv
  refine hL (Int × Hd × Hd) (fun s => 0 ≤ s.1 ∧ s.1 ≤ 104 ∧ ∀ j : Nat, j < 104 → (s.2.1.getMsbD j = if j < s.1.toNat then (m0.getMsbD j && v0.getMsbD j) else false) ∧ (s.2.2.getMsbD j = if j < s.1.toNat then (!m0.getMsbD j || v0.getMsbD j) else false)) (fun s => (104 - s.1).toNat)
    (fun s => ⟨[(6, .i .i64 s.1), (5, .p 5 [] 0), (4, .p 4 [] 0), (3, .p 3 [] 0), (2, .p 2 [] 0), (1, .p 1 [] 0)], [(5, .box 34 (.hd s.2.2)), (4, .box 34 (.hd s.2.1)), (3, .box 34 (.hd 0)), (2, .box 34 (.hd 0)), (1, .box 36 (.pr (.hd v0) (.hd m0)))]⟩) _ _ _ (0, 0, 0) ?_ ?_ ?_ ?_
  · intro l st hk
    exact hk
  · exact ⟨by simp, by simp, fun j hj => by simp⟩
  · cbv
  · rintro ⟨k, x, y⟩ hk
    cbv
    obtain rfl := Lk.eq_std u
    simp only [Lk.std]
    obtain ⟨h0, h1, hj⟩ := hk
    simp only at h0 h1 hj
    obtain ⟨n, rfl⟩ := Int.eq_ofNat_of_zero_le h0
    refine ⟨fun hlt => ?_, fun hge => ?_⟩
    · have hlt : (n : Int) < 104 := by simpa using hlt
      rw [wrap_i64 (by omega) (by omega)]
      refine ⟨((n : Int) + 1, putM x n (atM v0 m0 n == 1), putM y n (atM v0 m0 n != 0)), ⟨by simp only; omega, by simp only; omega, fun j hj' => ?_⟩, by simp only; omega, ?_⟩
      · obtain ⟨e1, e2⟩ := hj j hj'
        have e0 : (atM v0 m0 n != 0) = (!m0.getMsbD n || v0.getMsbD n) := by
          unfold atM
          rw [bitM_nat m0 (by omega), bitM_nat v0 (by omega)]
          cases m0.getMsbD n <;> cases v0.getMsbD n <;> rfl
        simp only
        rw [put_msb _ (by omega) hj', put_msb _ (by omega) hj', at_one _ _ (by omega), e0, e1, e2]
        by_cases hjn : j = n
        · subst hjn
          rw [if_pos rfl, if_pos rfl, if_pos (by omega), if_pos (by omega)]
          exact ⟨rfl, rfl⟩
        · rw [if_neg hjn, if_neg hjn]
          by_cases hjl : j < n
          · rw [if_pos (by omega), if_pos (by omega), if_pos (by omega), if_pos (by omega)]; exact ⟨rfl, rfl⟩
          · rw [if_neg (by omega), if_neg (by omega), if_neg (by omega), if_neg (by omega)]; exact ⟨rfl, rfl⟩
      · (repeat' first | exact trivial | rfl | refine ⟨?_, ?_⟩)
    · have hge : ¬ (n : Int) < 104 := by simpa using hge
      have hx : x = loM (v0, m0) := hd_ext_msb fun j hj' => by rw [(hj j hj').1, if_pos (by omega), loM, BitVec.getMsbD_and, Bool.and_comm]
      have hy : y = hiM (v0, m0) := hd_ext_msb fun j hj' => by
        rw [(hj j hj').2, if_pos (by omega), hiM, BitVec.getMsbD_or, BitVec.getMsbD_and, BitVec.getMsbD_not]
        simp only [hj', decide_true, Bool.true_and]
        cases m0.getMsbD j <;> cases v0.getMsbD j <;> rfl
      rw [hx, hy]
      all_goals exact ⟨rfl, rfl⟩

theorem plain77 : Plainly Try.prog 77 := ⟨Try.f77, Try.func77, by kernel_rfl, by kernel_rfl⟩
theorem ok77 (u : Lk) : SpecOK Try.prog 77 (endsS u) := fun args q r h hq => by
  obtain ⟨v0, m0, rfl, rfl⟩ := endsS_spec h
  exact fn_ok (u := u) Try.func77 rfl (fns_cons plain56 (ok56 u) (fns_cons plain112 (ok112 u) fns_nil)) rfl rfl (walk77 u v0 m0)

def rfreeN (c : Cu) (k : Nat) : Nat := (List.range k).countP fun i => atM c.1 c.2 (i : Nat) == 2
def rfreeM (c : Cu) : Int := (rfreeN c 104 : Int)
theorem rfree_succ (c : Cu) (k : Nat) : rfreeN c (k + 1) = rfreeN c k + if atM c.1 c.2 (k : Nat) == 2 then 1 else 0 := by
  simp [rfreeN, List.range_succ, List.countP_append, List.countP_cons]
theorem rfree_le (c : Cu) (k : Nat) : rfreeN c k ≤ k := by
  have := List.countP_le_length (p := fun i : Nat => atM c.1 c.2 (i : Nat) == 2) (l := List.range k)
  simpa [rfreeN] using this

def rfreeS (u : Lk) : Spec
  | [.pr (.hd v0) (.hd m0)] => some (True, (.i .i64 (lk1 u rfreeM (v0, m0))))
  | _ => none
theorem rfreeS_spec {u : Lk} {args : List SV} {q : Prop} {r : SV} (h : rfreeS u args = some (q, r)) : ∃ v0 m0, args = [.pr (.hd v0) (.hd m0)] ∧ r = (.i .i64 (lk1 u rfreeM (v0, m0))) := by
  unfold rfreeS at h
  split at h
  · simp only [Option.some.injEq, Prod.mk.injEq] at h
    exact ⟨_, _, rfl, h.2.symm⟩
  · cases h

set_option maxRecDepth 100000 in
theorem walk79 (u : Lk) (v0 : Hd) (m0 : Hd) : Walk Try.f79 (Try.f79.body.getD .skip) [(56, atS u)] u [.pr (.hd v0) (.hd m0)] (.i .i64 (lk1 u rfreeM (v0, m0))) := by
  intro L hL
  cbv
  refine hL Nat (fun k => k ≤ 104) (fun k => 104 - k)
    (fun k => ⟨[(4, .i .i64 (lk1 u (fun (k : Nat) => (k : Int)) k)), (3, .i .i64 (lk2 u (fun c (k : Nat) => (rfreeN c k : Int)) (v0, m0) k)), (1, .p 1 [] 0)], [(1, .box 36 (.pr (.hd v0) (.hd m0)))]⟩) _ _ _ 0 ?_ ?_ ?_ ?_
  · intro l st hk
    exact hk
  · simp
  · cbv
    obtain rfl := Lk.eq_std u
    (repeat' first | exact trivial | rfl | refine ⟨?_, ?_⟩)
  · rintro k hk
    cbv
    obtain rfl := Lk.eq_std u
    simp only [Lk.std]
    refine ⟨fun hlt => ?_, fun hge => ?_⟩
    · have hlt : (k : Int) < 104 := by simpa using hlt
      have hw : IntKind.i64.wrap (Int.ofNat k + 1) = ((k + 1 : Nat) : Int) := by
        show IntKind.i64.wrap ((k : Int) + 1) = _
        rw [wrap_i64 (by omega) (by omega)]; omega
      have hs := rfree_succ (v0, m0) k
      have hle := rfree_le (v0, m0) k
      rw [hw]
      refine ⟨fun hb => ?_, fun hb => ?_⟩
      · have hb : (atM v0 m0 (k : Nat) == 2) = true := hb
        refine ⟨k + 1, by omega, by omega, ?_⟩
        have hw2 : IntKind.i64.wrap ((rfreeN (v0, m0) k : Int) + 1) = ((rfreeN (v0, m0) (k + 1) : Nat) : Int) := by
          rw [wrap_i64 (by omega) (by omega), hs]; simp only [hb, if_true]; omega
        simp only [lk1, lk2, hw2]
        (repeat' first | exact trivial | rfl | refine ⟨?_, ?_⟩)
      · have hb : (atM v0 m0 (k : Nat) == 2) = false := hb
        refine ⟨k + 1, by omega, by omega, ?_⟩
        have hw2 : rfreeN (v0, m0) (k + 1) = rfreeN (v0, m0) k := by
          rw [hs]; simp only [hb]; simp
        simp only [lk1, lk2, hw2]
        (repeat' first | exact trivial | rfl | refine ⟨?_, ?_⟩)
    · have hge : ¬ (k : Int) < 104 := by simpa using hge
      have : k = 104 := by omega
      rw [this]; rfl

theorem plain79 : Plainly Try.prog 79 := ⟨Try.f79, Try.func79, by kernel_rfl, by kernel_rfl⟩
theorem ok79 (u : Lk) : SpecOK Try.prog 79 (rfreeS u) := fun args q r h hq => by
  obtain ⟨v0, m0, rfl, rfl⟩ := rfreeS_spec h
  exact fn_ok (u := u) Try.func79 rfl (fns_cons plain56 (ok56 u) fns_nil) rfl rfl (walk79 u v0 m0)

end Mx
