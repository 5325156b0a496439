/- Canon in both; Right; All; Of. Own work. -/
import Derived.Test.YtlnofclfpcmneaaFb
namespace Mx
open Go Go.Proofs
def canonM (c : Cu) : Cu := (c.1 &&& c.2, c.2)
theorem canon_bytes {x v m : Hd} (h : ∀ j, j < 13 → hbn x j = hbn v j &&& hbn m j) : x = v &&& m := hd_ext fun k hk => by rw [h k hk, hbn_and]
theorem and_byte (a b : Hd) (n : Nat) : bits .and .u8 (hb a n) (hb b n) = ((hbn a n &&& hbn b n : Nat) : Int) := by
  simp only [hb, Int.toNat_natCast]
  rw [and_u8 (hbn_lt' _ _) (hbn_lt' _ _)]
theorem and_lt (a b : Hd) (n : Nat) : hbn a n &&& hbn b n < 256 := Nat.lt_of_le_of_lt Nat.and_le_left (hbn_lt' _ _)
theorem bitM_nat (h : Hd) {n : Nat} (hn : n < 104) : bitM h n = h.getMsbD n := by
  have : (n : Int) < 104 := by omega
  simp [bitM, this]
theorem put_msb (h : Hd) {k n : Nat} (hk : k < 104) (hn : n < 104) (b : Bool) : (putM h k b).getMsbD n = if n = k then b else h.getMsbD n := by
  unfold putM
  rw [bitM_nat h hk]
  cases hb : (h.getMsbD k == b) with
  | true =>
    have hb : h.getMsbD k = b := by simpa using hb
    rw [cond_true]
    by_cases hnk : n = k
    · subst hnk; rw [if_pos rfl, hb]
    · rw [if_neg hnk]
  | false =>
    have hb : h.getMsbD k ≠ b := by simpa using hb
    have h1 : (k : Int) < 104 := by omega
    rw [cond_false, flipM]
    simp only [Int.natCast_nonneg, h1, decide_true, Bool.and_self, cond_true, Int.toNat_natCast]
    rw [flip_msb h hk hn]
    by_cases hnk : n = k
    · subst hnk
      cases b <;> cases hh : h.getMsbD n <;> simp_all
    · simp [hnk]
theorem at_one (v m : Hd) {n : Nat} (hn : n < 104) : (atM v m n == 1) = (m.getMsbD n && v.getMsbD n) := by
  unfold atM
  rw [bitM_nat m hn, bitM_nat v hn]
  cases m.getMsbD n <;> cases v.getMsbD n <;> rfl
theorem at_two (v m : Hd) {n : Nat} (hn : n < 104) : (atM v m n != 2) = m.getMsbD n := by
  unfold atM
  rw [bitM_nat m hn, bitM_nat v hn]
  cases m.getMsbD n <;> cases v.getMsbD n <;> rfl

def canonS (u : Lk) : Spec
  | [.pr (.hd v0) (.hd m0)] => some (True, (.pr (.hd (lk1 u (fun x0 => (canonM x0).1) (v0, m0))) (.hd (lk1 u (fun x0 => (canonM x0).2) (v0, m0)))))
  | _ => none
theorem canonS_spec {u : Lk} {args : List SV} {q : Prop} {r : SV} (h : canonS u args = some (q, r)) : ∃ v0 m0, args = [.pr (.hd v0) (.hd m0)] ∧ r = (.pr (.hd (lk1 u (fun x0 => (canonM x0).1) (v0, m0))) (.hd (lk1 u (fun x0 => (canonM x0).2) (v0, m0)))) := by
  unfold canonS at h
  split at h
  · simp only [Option.some.injEq, Prod.mk.injEq] at h
    exact ⟨_, _, rfl, h.2.symm⟩
  · cases h

set_option maxRecDepth 100000 in
theorem walk73 (u : Lk) (v0 : Hd) (m0 : Hd) : Walk Try.f73 (Try.f73.body.getD .skip) [] u [.pr (.hd v0) (.hd m0)] (.pr (.hd (lk1 u (fun x0 => (canonM x0).1) (v0, m0))) (.hd (lk1 u (fun x0 => (canonM x0).2) (v0, m0)))) := by
  intro L hL
  cbv
  refine hL (Int × Hd) (fun s => 0 ≤ s.1 ∧ s.1 ≤ 13 ∧ ∀ j : Nat, j < 13 → hbn s.2 j = if j < s.1.toNat then hbn v0 j &&& hbn m0 j else hbn v0 j) (fun s => (13 - s.1).toNat)
    (fun s => ⟨[(4, .i .i64 s.1), (2, .p 2 [] 0), (1, .p 1 [] 0)], [(2, .box 36 (.pr (.hd 0) (.hd 0))), (1, .box 36 (.pr (.hd s.2) (.hd m0)))]⟩) _ _ _ (0, v0) ?_ ?_ ?_ ?_
  · intro l st hk
    exact hk
  · exact ⟨by simp, by simp, fun j hj => by simp⟩
  · cbv
  · rintro ⟨k, x⟩ hk
    cbv
    obtain rfl := Lk.eq_std u
    simp only [Lk.std]
    obtain ⟨h0, h1, hj⟩ := hk
    simp only at h0 h1 hj
    obtain ⟨n, rfl⟩ := Int.eq_ofNat_of_zero_le h0
    have hlt' := and_lt x m0 n
    rw [and_byte]
    refine ⟨fun hlt => ?_, fun hge => ?_⟩
    · have hlt : (n : Int) < 13 := by simpa using hlt
      refine ⟨by refine ⟨⟨h0, hlt⟩, ⟨h0, hlt⟩, ⟨h0, hlt⟩, ⟨h0, hlt⟩, ⟨h0, hlt⟩, ⟨⟨h0, hlt⟩, ?_, ?_⟩, trivial⟩ <;> omega, ?_⟩
      rw [i_lt13 (by omega) hlt]
      refine ⟨((n : Int) + 1, setHb x n ((hbn x n &&& hbn m0 n : Nat) : Int)), ⟨by simp only; omega, by simp only; omega, fun j hj' => ?_⟩, by simp only; omega, ?_⟩
      · simp only
        rw [hbn_setHb x n _ j hj' ⟨by omega, by omega⟩, hj j hj']
        by_cases hjn : j = n
        · subst hjn
          rw [if_pos rfl, if_pos (by omega), Int.toNat_natCast, hj j hj', if_neg (by omega)]
        · rw [if_neg hjn]
          by_cases hjl : j < n
          · rw [if_pos (by omega), if_pos (by omega)]
          · rw [if_neg (by omega), if_neg (by omega)]
      · exact ⟨⟨rfl, rfl, rfl, trivial⟩, rfl, rfl, trivial⟩
    · have hge : ¬ (n : Int) < 13 := by simpa using hge
      have hx : x = v0 &&& m0 := canon_bytes fun j hj' => by rw [hj j hj', if_pos (by omega)]
      rw [hx]; rfl

theorem plain73 : Plainly Try.prog 73 := ⟨Try.f73, Try.func73, by kernel_rfl, by kernel_rfl⟩
theorem ok73 (u : Lk) : SpecOK Try.prog 73 (canonS u) := fun args q r h hq => by
  obtain ⟨v0, m0, rfl, rfl⟩ := canonS_spec h
  exact fn_ok (u := u) Try.func73 rfl fns_nil rfl rfl (walk73 u v0 m0)

set_option maxRecDepth 100000 in
theorem walk43 (u : Lk) (v0 : Hd) (m0 : Hd) : Walk Try.f43 (Try.f43.body.getD .skip) [(56, atS u), (57, setS u)] u [.pr (.hd v0) (.hd m0)] (.pr (.hd (lk1 u (fun x0 => (canonM x0).1) (v0, m0))) (.hd (lk1 u (fun x0 => (canonM x0).2) (v0, m0)))) := by
  intro L hL
  cbv
  refine hL (Int × Cu) (fun s => 0 ≤ s.1 ∧ s.1 ≤ 104 ∧ ∀ j : Nat, j < 104 → (s.2.1.getMsbD j = if j < s.1.toNat then (m0.getMsbD j && v0.getMsbD j) else false) ∧ (s.2.2.getMsbD j = if j < s.1.toNat then m0.getMsbD j else false)) (fun s => (104 - s.1).toNat)
    (fun s => ⟨[(4, .i .i64 s.1), (3, .p 3 [] 0), (2, .p 2 [] 0), (1, .p 1 [] 0)], [(3, .box 36 (.pr (.hd s.2.1) (.hd s.2.2))), (2, .box 36 (.pr (.hd 0) (.hd 0))), (1, .box 36 (.pr (.hd v0) (.hd m0)))]⟩) _ _ _ (0, (0, 0)) ?_ ?_ ?_ ?_
  · intro l st hk
    exact hk
  · exact ⟨by simp, by simp, fun j hj => by simp⟩
  · cbv
  · rintro ⟨k, x, y⟩ hk
    cbv
    obtain rfl := Lk.eq_std u
    simp only [Lk.std]
    obtain ⟨h0, h1, hj⟩ := hk
    simp only at h0 h1 hj
    obtain ⟨n, rfl⟩ := Int.eq_ofNat_of_zero_le h0
    refine ⟨fun hlt => ?_, fun hge => ?_⟩
    · have hlt : (n : Int) < 104 := by simpa using hlt
      rw [wrap_i64 (by omega) (by omega)]
      refine ⟨((n : Int) + 1, (setV x n (atM v0 m0 n), setK y n (atM v0 m0 n))), ⟨by simp only; omega, by simp only; omega, fun j hj' => ?_⟩, by simp only; omega, ?_⟩
      · obtain ⟨e1, e2⟩ := hj j hj'
        simp only
        rw [setV, setK, put_msb _ (by omega) hj', put_msb _ (by omega) hj', at_one _ _ (by omega), at_two _ _ (by omega), e1, e2]
        by_cases hjn : j = n
        · subst hjn
          rw [if_pos rfl, if_pos rfl, if_pos (by omega), if_pos (by omega)]
          exact ⟨rfl, rfl⟩
        · rw [if_neg hjn, if_neg hjn]
          by_cases hjl : j < n
          · rw [if_pos (by omega), if_pos (by omega), if_pos (by omega), if_pos (by omega)]; exact ⟨rfl, rfl⟩
          · rw [if_neg (by omega), if_neg (by omega), if_neg (by omega), if_neg (by omega)]; exact ⟨rfl, rfl⟩
      · exact ⟨⟨rfl, rfl, rfl, rfl, trivial⟩, rfl, rfl, rfl, trivial⟩
    · have hge : ¬ (n : Int) < 104 := by simpa using hge
      have hx : x = v0 &&& m0 := hd_ext_msb fun j hj' => by rw [(hj j hj').1, if_pos (by omega), BitVec.getMsbD_and, Bool.and_comm]
      have hy : y = m0 := hd_ext_msb fun j hj' => by rw [(hj j hj').2, if_pos (by omega)]
      rw [hx, hy]; rfl

theorem plain43 : Plainly Try.prog 43 := ⟨Try.f43, Try.func43, by kernel_rfl, by kernel_rfl⟩
theorem ok43 (u : Lk) : SpecOK Try.prog 43 (canonS u) := fun args q r h hq => by
  obtain ⟨v0, m0, rfl, rfl⟩ := canonS_spec h
  exact fn_ok (u := u) Try.func43 rfl (fns_cons plain56 (ok56 u) (fns_cons plain57 (ok57 u) fns_nil)) rfl rfl (walk43 u v0 m0)

set_option maxRecDepth 100000 in
theorem walk72 (u : Lk) : Walk Try.f72 (Try.f72.body.getD .skip) [] u [] (.pr (.hd 0) (.hd 0)) := by
  intro L hL
  cbv
def rightM (c : Cu) : Bool := canonM c == c

def rightS (u : Lk) : Spec
  | [.pr (.hd v0) (.hd m0)] => some (True, (.b (lk1 u rightM (v0, m0))))
  | _ => none
theorem rightS_spec {u : Lk} {args : List SV} {q : Prop} {r : SV} (h : rightS u args = some (q, r)) : ∃ v0 m0, args = [.pr (.hd v0) (.hd m0)] ∧ r = (.b (lk1 u rightM (v0, m0))) := by
  unfold rightS at h
  split at h
  · simp only [Option.some.injEq, Prod.mk.injEq] at h
    exact ⟨_, _, rfl, h.2.symm⟩
  · cases h

set_option maxRecDepth 100000 in
theorem walk52 (u : Lk) (v0 : Hd) (m0 : Hd) : Walk Try.f52 (Try.f52.body.getD .skip) [(73, canonS u)] u [.pr (.hd v0) (.hd m0)] (.b (lk1 u rightM (v0, m0))) := by
  intro L hL
  cbv
  obtain rfl := Lk.eq_std u
  simp only [Lk.std]
  rfl

theorem plain52 : Plainly Try.prog 52 := ⟨Try.f52, Try.func52, by kernel_rfl, by kernel_rfl⟩
theorem ok52 (u : Lk) : SpecOK Try.prog 52 (rightS u) := fun args q r h hq => by
  obtain ⟨v0, m0, rfl, rfl⟩ := rightS_spec h
  exact fn_ok (u := u) Try.func52 rfl (fns_cons plain73 (ok73 u) fns_nil) rfl rfl (walk52 u v0 m0)

end Mx
