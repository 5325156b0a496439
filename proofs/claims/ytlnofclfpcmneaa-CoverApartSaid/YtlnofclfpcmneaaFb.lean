/- The reference's At and Set; cube.Has. Own work. -/
import Derived.Test.YtlnofclfpcmneaaFa
namespace Mx
open Go Go.Proofs
def atM (v m : Hd) (i : Int) : Int := bif bitM m i then (bif bitM v i then 1 else 0) else 2
def atS (u : Lk) : Spec
  | [.pr (.hd v) (.hd m), .i .i64 i] => some (True, .i .i64 (lk3 u atM v m i))
  | _ => none
def setV (v : Hd) (i k : Int) : Hd := putM v i (k == 1)
def setK (m : Hd) (i k : Int) : Hd := putM m i (k != 2)
def setS (u : Lk) : Spec
  | [.pr (.hd v) (.hd m), .i .i64 i, .i .i64 k] => some (True, .pr (.hd (lk3 u setV v i k)) (.hd (lk3 u setK m i k)))
  | _ => none
set_option maxRecDepth 100000 in
theorem walk56 (u : Lk) (v m : Hd) (i : Int) : Walk Try.f56 (Try.f56.body.getD .skip) [(111, bitS u)] u [.pr (.hd v) (.hd m), .i .i64 i] (.i .i64 (lk3 u atM v m i)) := by
  intro L hL
  clear hL
  cbv
  obtain rfl := Lk.eq_std u
  simp only [Lk.std]
  cases h1 : bitM m i <;> cases h2 : bitM v i <;> simp [atM, h1, h2]
set_option maxRecDepth 100000 in
theorem walk57 (u : Lk) (v m : Hd) (i k : Int) : Walk Try.f57 (Try.f57.body.getD .skip) [(112, putS u)] u [.pr (.hd v) (.hd m), .i .i64 i, .i .i64 k] (.pr (.hd (lk3 u setV v i k)) (.hd (lk3 u setK m i k))) := by
  intro L hL
  clear hL
  cbv
  obtain rfl := Lk.eq_std u
  simp only [Lk.std]
  simp [setV, setK]
  rfl
theorem hbn_xor (x y : Hd) (k : Nat) : hbn (x ^^^ y) k = hbn x k ^^^ hbn y k := by
  unfold hbn
  rw [BitVec.toNat_xor, Nat.shiftRight_xor_distrib, show (256 : Nat) = 2 ^ 8 from rfl, Nat.xor_mod_two_pow]
theorem hbn_and (x y : Hd) (k : Nat) : hbn (x &&& y) k = hbn x k &&& hbn y k := by
  unfold hbn
  rw [BitVec.toNat_and, Nat.shiftRight_and_distrib, show (256 : Nat) = 2 ^ 8 from rfl, Nat.and_mod_two_pow]
theorem hbn_zero (k : Nat) : hbn 0 k = 0 := by simp [hbn]
/-- has a cube a header? -/
def hasM (v m h : Hd) : Bool := (v ^^^ h) &&& m == 0
theorem has_bytes (v m h : Hd) : hasM v m h = true ↔ ∀ k, k < 13 → (hbn v k ^^^ hbn h k) &&& hbn m k = 0 := by
  unfold hasM
  rw [beq_iff_eq]
  constructor
  · intro e k _
    rw [← hbn_xor, ← hbn_and, e, hbn_zero]
  · intro e
    refine hd_ext fun k hk => ?_
    rw [hbn_and, hbn_xor, e k hk, hbn_zero]
theorem i_lt13 {k : Int} (h0 : 0 ≤ k) (h1 : k < 13) : IntKind.i64.wrap (k + 1) = k + 1 := wrap_i64 (by omega) (by omega)
set_option maxRecDepth 100000 in
theorem walk59 (u : Lk) (v m h : Hd) : Walk Try.f59 (Try.f59.body.getD .skip) [] u [.pr (.hd v) (.hd m), .hd h] (.b (lk3 u hasM v m h)) := by
  intro L hL
  cbv
  refine hL Int (fun k => 0 ≤ k ∧ k ≤ 13 ∧ ∀ j : Nat, j < k.toNat → (hbn v j ^^^ hbn h j) &&& hbn m j = 0) (fun k => (13 - k).toNat)
    (fun k => ⟨[(9, .i .i64 k), (8, .hd m), (2, .p 2 [] 0), (3, .p 3 [] 0), (4, .b false)], [(3, .box 34 (.hd h)), (2, .box 36 (.pr (.hd v) (.hd m)))]⟩) _ _ _ 0 ?_ ?_ ?_ ?_
  · intro l st hk
    exact hk
  · refine ⟨by omega, by omega, fun j hj => by omega⟩
  · cbv
  · intro k hk
    cbv
    obtain rfl := Lk.eq_std u
    simp only [Lk.std]
    obtain ⟨h0, h1, hj⟩ := hk
    obtain ⟨n, rfl⟩ := Int.eq_ofNat_of_zero_le h0
    have hx : bits .and .u8 (bits .xor .u8 (hb v n) (hb h n)) (hb m n) = (((hbn v n ^^^ hbn h n) &&& hbn m n : Nat) : Int) := by
      simp only [hb, Int.toNat_natCast]
      rw [xor_u8 (hbn_lt' _ _) (hbn_lt' _ _), and_u8 (Nat.xor_lt_two_pow (n := 8) (hbn_lt' _ _) (hbn_lt' _ _)) (hbn_lt' _ _)]
    rw [hx]
    refine ⟨fun hlt => ?_, fun hge => ?_⟩
    · have hlt : (n : Int) < 13 := by simpa using hlt
      refine ⟨by simp; omega, by simp; omega, fun hne => ?_, fun he => ?_⟩
      · congr 1
        have hne : (hbn v n ^^^ hbn h n) &&& hbn m n ≠ 0 := by
          intro e; rw [e] at hne; simp at hne
        cases hh : hasM v m h with
        | false => rfl
        | true => exact (hne ((has_bytes v m h).1 hh n (by omega))).elim
      · have he : (hbn v n ^^^ hbn h n) &&& hbn m n = 0 := by
          have : ((((hbn v n ^^^ hbn h n) &&& hbn m n : Nat)) : Int) = 0 := by simpa using he
          omega
        rw [i_lt13 (by omega) hlt]
        refine ⟨(n : Int) + 1, ⟨by omega, by omega, fun j hj' => ?_⟩, by omega, ?_⟩
        · by_cases hjn : j = n
          · subst hjn; exact he
          · exact hj j (by omega)
        · exact ⟨⟨rfl, rfl, rfl, rfl, rfl, trivial⟩, rfl, rfl, trivial⟩
    · have hge : ¬ (n : Int) < 13 := by simpa using hge
      congr 1
      symm
      exact (has_bytes v m h).2 fun k hk => hj k (by omega)
def hasS (u : Lk) : Spec
  | [.pr (.hd v) (.hd m), .hd h] => some (True, .b (lk3 u hasM v m h))
  | _ => none
theorem atS_spec {u : Lk} {args : List SV} {q : Prop} {r : SV} (h : atS u args = some (q, r)) : ∃ v m i, args = [.pr (.hd v) (.hd m), .i .i64 i] ∧ r = .i .i64 (lk3 u atM v m i) := by
  unfold atS at h
  split at h
  · simp only [Option.some.injEq, Prod.mk.injEq] at h
    exact ⟨_, _, _, rfl, h.2.symm⟩
  · cases h
theorem setS_spec {u : Lk} {args : List SV} {q : Prop} {r : SV} (h : setS u args = some (q, r)) : ∃ v m i k, args = [.pr (.hd v) (.hd m), .i .i64 i, .i .i64 k] ∧ r = .pr (.hd (lk3 u setV v i k)) (.hd (lk3 u setK m i k)) := by
  unfold setS at h
  split at h
  · simp only [Option.some.injEq, Prod.mk.injEq] at h
    exact ⟨_, _, _, _, rfl, h.2.symm⟩
  · cases h
theorem hasS_spec {u : Lk} {args : List SV} {q : Prop} {r : SV} (h : hasS u args = some (q, r)) : ∃ v m x, args = [.pr (.hd v) (.hd m), .hd x] ∧ r = .b (lk3 u hasM v m x) := by
  unfold hasS at h
  split at h
  · simp only [Option.some.injEq, Prod.mk.injEq] at h
    exact ⟨_, _, _, rfl, h.2.symm⟩
  · cases h
theorem plain56 : Plainly Try.prog 56 := ⟨Try.f56, Try.func56, by kernel_rfl, by kernel_rfl⟩
theorem plain57 : Plainly Try.prog 57 := ⟨Try.f57, Try.func57, by kernel_rfl, by kernel_rfl⟩
theorem plain59 : Plainly Try.prog 59 := ⟨Try.f59, Try.func59, by kernel_rfl, by kernel_rfl⟩
theorem ok56 (u : Lk) : SpecOK Try.prog 56 (atS u) := fun args q r h hq => by
  obtain ⟨v, m, i, rfl, rfl⟩ := atS_spec h
  exact fn_ok (u := u) Try.func56 rfl (fns_cons plain111 (ok111 u) fns_nil) rfl rfl (walk56 u v m i)
theorem ok57 (u : Lk) : SpecOK Try.prog 57 (setS u) := fun args q r h hq => by
  obtain ⟨v, m, i, k, rfl, rfl⟩ := setS_spec h
  exact fn_ok (u := u) Try.func57 rfl (fns_cons plain112 (ok112 u) fns_nil) rfl rfl (walk57 u v m i k)
theorem ok59 (u : Lk) : SpecOK Try.prog 59 (hasS u) := fun args q r h hq => by
  obtain ⟨v, m, x, rfl, rfl⟩ := hasS_spec h
  exact fn_ok (u := u) Try.func59 rfl fns_nil rfl rfl (walk59 u v m x)
end Mx
