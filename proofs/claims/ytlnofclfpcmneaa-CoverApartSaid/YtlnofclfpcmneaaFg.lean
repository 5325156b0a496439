/- Minus. Own work. -/
import Derived.Test.YtlnofclfpcmneaaFf
namespace Mx
open Go Go.Proofs
def minusAt (b : Cu) (st : List Cu × Cu) (i : Nat) : List Cu × Cu :=
  bif bitM st.2.2 i || !bitM (canonM b).2 i then st else (st.1 ++ [fixC st.2 i (!bitM (canonM b).1 i)], fixC st.2 i (bitM (canonM b).1 i))
def minusL (a b : Cu) : Nat → List Cu × Cu
  | 0 => ([], canonM a)
  | n + 1 => minusAt b (minusL a b n) n
def minusM (a b : Cu) : List Cu := bif meetOk (canonM a) (canonM b) then (minusL a b 104).1 else [canonM a]
theorem minus_len (a b : Cu) : ∀ n, (minusL a b n).1.length ≤ n
  | 0 => Nat.le_refl _
  | n + 1 => by
    have ih := minus_len a b n
    simp only [minusL, minusAt]
    cases bitM (minusL a b n).2.2 n || !bitM (canonM b).2 n
    · simp; omega
    · simp; omega

def minusS (u : Lk) : Spec
  | [.pr (.hd v0) (.hd m0), .pr (.hd v1) (.hd m1)] => some (True, (.sl .cube (lk2 u minusM (v0, m0) (v1, m1))))
  | _ => none
theorem minusS_spec {u : Lk} {args : List SV} {q : Prop} {r : SV} (h : minusS u args = some (q, r)) : ∃ v0 m0 v1 m1, args = [.pr (.hd v0) (.hd m0), .pr (.hd v1) (.hd m1)] ∧ r = (.sl .cube (lk2 u minusM (v0, m0) (v1, m1))) := by
  unfold minusS at h
  split at h
  · simp only [Option.some.injEq, Prod.mk.injEq] at h
    exact ⟨_, _, _, _, rfl, h.2.symm⟩
  · cases h

set_option maxRecDepth 100000 in
theorem walk66 (u : Lk) (v0 : Hd) (m0 : Hd) (v1 : Hd) (m1 : Hd) : Walk Try.f66 (Try.f66.body.getD .skip) [(73, canonS u), (61, meetS u), (107, bitS u), (63, fixS u)] u [.pr (.hd v0) (.hd m0), .pr (.hd v1) (.hd m1)] (.sl .cube (lk2 u minusM (v0, m0) (v1, m1))) := by
  intro L hL
  cbv
  refine (iff_of_eq (u.e3 _ _ _ _)).mpr ⟨fun hm => ?_, fun hm => ?_⟩
  · obtain rfl := Lk.eq_std u
    simp only [Lk.std] at hm ⊢
    have hno : meetOk (canonM (v0, m0)) (canonM (v1, m1)) = false := by simpa using hm
    simp only [minusM, hno, cond_false]
  refine hL Nat (fun k => k ≤ 104) (fun k => 104 - k)
    (fun k => ⟨[(26, .i .i64 (lk1 u (fun (k : Nat) => (k : Int)) k)), (7, .ow 7 (.sl .cube (lk3 u (fun a b n => (minusL a b n).1) (v0, m0) (v1, m1) k))), (2, .p 2 [] 0), (3, .p 3 [] 0)], [(7, .own 36 .cube), (2, .box 36 (.pr (.hd (lk3 u (fun a b n => (minusL a b n).2.1) (v0, m0) (v1, m1) k)) (.hd (lk3 u (fun a b n => (minusL a b n).2.2) (v0, m0) (v1, m1) k)))), (3, .box 36 (.pr (.hd (lk1 u (fun x0 => (canonM x0).1) (v1, m1))) (.hd (lk1 u (fun x0 => (canonM x0).2) (v1, m1)))))]⟩) _ _ _ 0 ?_ ?_ ?_ ?_
  · intro l st hk
    exact hk
  · simp
  · cbv
    obtain rfl := Lk.eq_std u
    simp only [Lk.std]
    exact ⟨⟨rfl, rfl, trivial⟩, rfl, trivial⟩
  · rintro k hk
    cbv
    obtain rfl := Lk.eq_std u
    simp only [Lk.std] at hm ⊢
    have hyes : meetOk (canonM (v0, m0)) (canonM (v1, m1)) = true := by simpa using hm
    refine ⟨fun hlt => ?_, fun hge => ?_⟩
    · have hlt : (k : Int) < 104 := by simpa using hlt
      have hw : IntKind.i64.wrap (Int.ofNat k + 1) = ((k + 1 : Nat) : Int) := by
        show IntKind.i64.wrap ((k : Int) + 1) = _
        rw [wrap_i64 (by omega) (by omega)]; omega
      rw [hw]
      have hlen := minus_len (v0, m0) (v1, m1) k
      refine ⟨by cases bitM (minusL (v0, m0) (v1, m1) k).2.2 (Int.ofNat k) <;> simp, fun hs => ?_, fun hs => ?_⟩
      · have e : minusL (v0, m0) (v1, m1) (k + 1) = minusL (v0, m0) (v1, m1) k := by
          have hs' : (bitM (minusL (v0, m0) (v1, m1) k).2.2 (k : Int) || !bitM (canonM (v1, m1)).2 (k : Int)) = true := by simpa using hs
          simp only [minusL, minusAt, hs', cond_true]
        refine ⟨k + 1, by omega, by omega, ?_⟩
        simp only [lk1, lk3, e]
        exact ⟨⟨rfl, rfl, rfl, rfl, trivial⟩, rfl, rfl, rfl, trivial⟩
      · have e : minusL (v0, m0) (v1, m1) (k + 1) = ((minusL (v0, m0) (v1, m1) k).1 ++ [fixC (minusL (v0, m0) (v1, m1) k).2 k (!bitM (canonM (v1, m1)).1 k)], fixC (minusL (v0, m0) (v1, m1) k).2 k (bitM (canonM (v1, m1)).1 k)) := by
          have hs' : (bitM (minusL (v0, m0) (v1, m1) k).2.2 (k : Int) || !bitM (canonM (v1, m1)).2 (k : Int)) = false := by simpa using hs
          simp only [minusL, minusAt, hs', cond_false]
        refine ⟨⟨?_, trivial⟩, k + 1, by omega, by omega, ?_⟩
        · simp only [lenS, List.append_eq, List.length_append, List.length_cons, List.length_nil]
          omega
        · simp only [lk1, lk3, e]
          exact ⟨⟨rfl, rfl, rfl, rfl, trivial⟩, rfl, rfl, rfl, trivial⟩
    · have hge : ¬ (k : Int) < 104 := by simpa using hge
      have : k = 104 := by omega
      subst this
      simp only [minusM, hyes, cond_true]

theorem plain66 : Plainly Try.prog 66 := ⟨Try.f66, Try.func66, by kernel_rfl, by kernel_rfl⟩
theorem ok66 (u : Lk) : SpecOK Try.prog 66 (minusS u) := fun args q r h hq => by
  obtain ⟨v0, m0, v1, m1, rfl, rfl⟩ := minusS_spec h
  exact fn_ok (u := u) Try.func66 rfl (fns_cons plain73 (ok73 u) (fns_cons plain61 (ok61 u) (fns_cons plain107 (ok107 u) (fns_cons plain63 (ok63 u) fns_nil)))) rfl rfl (walk66 u v0 m0 v1 m1)

end Mx
