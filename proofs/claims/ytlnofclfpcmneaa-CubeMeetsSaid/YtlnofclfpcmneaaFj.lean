/- CubeMeets: the law's own walk. Own work. -/
import Derived.Test.YtlnofclfpcmneaaFi
namespace Mx
open Go Go.Proofs
theorem meet_has (v0 m0 v1 m1 h : Hd) : (meetOk (v0, m0) (v1, m1) && hasM (meetC (v0, m0) (v1, m1)).1 (meetC (v0, m0) (v1, m1)).2 h) = (hasM v0 m0 h && hasM v1 m1 h) := by
  rw [Bool.eq_iff_iff, Bool.and_eq_true, Bool.and_eq_true]
  constructor
  · rintro ⟨hok, hh⟩
    rw [meetC, hok, cond_true, has_bits] at hh
    rw [meet_bits] at hok
    refine ⟨(has_bits _ _ _).2 fun j hj hm => ?_, (has_bits _ _ _).2 fun j hj hm => ?_⟩
    · have h1 := hok j hj
      have h2 := hh j hj (by simp only [BitVec.getMsbD_or, hm, Bool.true_or])
      simp only [BitVec.getMsbD_or, BitVec.getMsbD_and, hm] at h1 h2
      rw [← h2]
      cases hm1 : m1.getMsbD j <;> rw [hm1] at h1 <;> cases hv : v0.getMsbD j <;> rw [hv] at h1 <;> simp_all
    · have h1 := hok j hj
      have h2 := hh j hj (by simp only [BitVec.getMsbD_or, hm, Bool.or_true])
      simp only [BitVec.getMsbD_or, BitVec.getMsbD_and, hm] at h1 h2
      rw [← h2]
      cases hm1 : m0.getMsbD j <;> rw [hm1] at h1 <;> cases hv : v1.getMsbD j <;> rw [hv] at h1 <;> simp_all
  · rintro ⟨ha, hb⟩
    rw [has_bits] at ha hb
    have hok : meetOk (v0, m0) (v1, m1) = true := (meet_bits _ _ _ _).2 fun j hj => by
      have h1 := ha j hj
      have h2 := hb j hj
      cases hm0 : m0.getMsbD j <;> cases hm1 : m1.getMsbD j <;> simp_all
    refine ⟨hok, ?_⟩
    rw [meetC, hok, cond_true, has_bits]
    intro j hj hm
    have h1 := ha j hj
    have h2 := hb j hj
    simp only [BitVec.getMsbD_or, BitVec.getMsbD_and] at hm ⊢
    cases hm0 : m0.getMsbD j <;> cases hm1 : m1.getMsbD j <;> simp_all
set_option maxRecDepth 100000 in
theorem walk13 (u : Lk) (v0 m0 v1 m1 h2 : Hd) : Walk Try.f13 (Try.f13.body.getD .skip) [(60, yesS), (61, meetS u), (62, meetS u), (59, hasS u)] u [.pr (.hd v0) (.hd m0), .pr (.hd v1) (.hd m1), .hd h2] (.b true) := by
  intro L hL
  clear hL
  cbv
  obtain rfl := Lk.eq_std u
  simp only [Lk.std]
  have e := meet_has v0 m0 v1 m1 h2
  have e' : (bif meetOk (v0, m0) (v1, m1) then hasM (meetC (v0, m0) (v1, m1)).1 (meetC (v0, m0) (v1, m1)).2 h2 else false) = (bif hasM v0 m0 h2 then hasM v1 m1 h2 else false) := by
    rw [Bool.cond_false_right, Bool.cond_false_right]; exact e
  simp only [e']
  simp [eqv]
theorem law13 (v0 m0 v1 m1 h2 : Hd) : FnOK Try.prog 13 [.pr (.hd v0) (.hd m0), .pr (.hd v1) (.hd m1), .hd h2] (.b true) :=
  fn_ok (u := Lk.std) Try.func13 rfl (fns_cons plain60 ok60 (fns_cons plain61 (ok61 _) (fns_cons plain62 (ok62 _) (fns_cons plain59 (ok59 _) fns_nil)))) rfl rfl (walk13 Lk.std v0 m0 v1 m1 h2)
end Mx
