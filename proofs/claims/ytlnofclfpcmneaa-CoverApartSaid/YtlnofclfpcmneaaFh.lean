/- OnesCount8, Free. Own work. -/
import Derived.Test.YtlnofclfpcmneaaFg
namespace Mx
open Go Go.Proofs
def popN (n : Nat) : Nat := (List.range 8).countP fun j => n.testBit j
def popM (n : Int) : Int := (popN n.toNat : Int)
def popS (u : Lk) : Spec
  | [.i .u8 n] => some (lq1 u (fun n => 0 ≤ n ∧ n < 256) n, .i .i64 (lk1 u popM n))
  | _ => none
set_option maxRecDepth 100000 in
theorem walk114 (u : Lk) (n : Int) (hn : 0 ≤ n ∧ n < 256) : Walk Try.f114 (Try.f114.body.getD .skip) [] u [.i .u8 n] (.i .i64 (lk1 u popM n)) := by
  intro L hL
  clear hL
  cbv
  obtain rfl := Lk.eq_std u
  simp only [Lk.std]
  refine ⟨⟨⟨⟨hn.1, hn.2⟩, trivial⟩, trivial⟩, congrArg (SV.i .i64) ?_⟩
  obtain ⟨k, rfl⟩ := Int.eq_ofNat_of_zero_le hn.1
  have hk : k < 256 := by omega
  clear hn
  revert k
  decide
theorem popS_spec {u : Lk} {args : List SV} {q : Prop} {r : SV} (h : popS u args = some (q, r)) : ∃ n, args = [.i .u8 n] ∧ r = .i .i64 (lk1 u popM n) ∧ q = lq1 u (fun n => 0 ≤ n ∧ n < 256) n := by
  unfold popS at h
  split at h
  · simp only [Option.some.injEq, Prod.mk.injEq] at h
    exact ⟨_, rfl, h.2.symm, h.1.symm⟩
  · cases h
theorem plain114 : Plainly Try.prog 114 := ⟨Try.f114, Try.func114, by kernel_rfl, by kernel_rfl⟩
theorem ok114 (u : Lk) : SpecOK Try.prog 114 (popS u) := fun args q r h hq => by
  obtain ⟨n, rfl, rfl, rfl⟩ := popS_spec h
  have hq' : 0 ≤ n ∧ n < 256 := by
    obtain rfl := Lk.eq_std u
    exact hq
  exact fn_ok (u := u) Try.func114 rfl fns_nil rfl rfl (walk114 u n hq')
def freeL (c : Cu) : Nat → Int
  | 0 => 104
  | n + 1 => freeL c n - popM (hb c.2 n)
def freeM (c : Cu) : Int := freeL c 13
theorem pop_le (n : Int) : 0 ≤ popM n ∧ popM n ≤ 8 := by
  have : popN n.toNat ≤ 8 := by
    have := List.countP_le_length (p := fun j => n.toNat.testBit j) (l := List.range 8)
    simpa [popN] using this
  simp only [popM]
  omega
theorem free_bound (c : Cu) : ∀ n : Nat, 104 - 8 * (n : Int) ≤ freeL c n ∧ freeL c n ≤ 104
  | 0 => by simp [freeL]
  | n + 1 => by
    have ih := free_bound c n
    have := pop_le (hb c.2 n)
    simp only [freeL]
    omega

def freeS (u : Lk) : Spec
  | [.pr (.hd v0) (.hd m0)] => some (True, (.i .i64 (lk1 u freeM (v0, m0))))
  | _ => none
theorem freeS_spec {u : Lk} {args : List SV} {q : Prop} {r : SV} (h : freeS u args = some (q, r)) : ∃ v0 m0, args = [.pr (.hd v0) (.hd m0)] ∧ r = (.i .i64 (lk1 u freeM (v0, m0))) := by
  unfold freeS at h
  split at h
  · simp only [Option.some.injEq, Prod.mk.injEq] at h
    exact ⟨_, _, rfl, h.2.symm⟩
  · cases h

set_option maxRecDepth 100000 in
theorem walk78 (u : Lk) (v0 : Hd) (m0 : Hd) : Walk Try.f78 (Try.f78.body.getD .skip) [(114, popS u)] u [.pr (.hd v0) (.hd m0)] (.i .i64 (lk1 u freeM (v0, m0))) := by
  intro L hL
  cbv
  refine hL Nat (fun k => k ≤ 13) (fun k => 13 - k)
    (fun k => ⟨[(8, .i .i64 (lk1 u (fun (k : Nat) => (k : Int)) k)), (3, .i .i64 (lk2 u freeL (v0, m0) k)), (7, .hd m0)], []⟩) _ _ _ 0 ?_ ?_ ?_ ?_
  · intro l st hk
    exact hk
  · simp
  · cbv
    obtain rfl := Lk.eq_std u
    simp only [Lk.std]
    exact ⟨⟨rfl, rfl, trivial⟩, trivial⟩
  · rintro k hk
    cbv
    obtain rfl := Lk.eq_std u
    simp only [Lk.std]
    refine ⟨fun hlt => ?_, fun hge => ?_⟩
    · have hlt : (k : Int) < 13 := by simpa using hlt
      have hw : IntKind.i64.wrap (Int.ofNat k + 1) = ((k + 1 : Nat) : Int) := by
        show IntKind.i64.wrap ((k : Int) + 1) = _
        rw [wrap_i64 (by omega) (by omega)]; omega
      have hf : IntKind.i64.wrap (freeL (v0, m0) k - popM (hb m0 (Int.ofNat k))) = freeL (v0, m0) (k + 1) := by
        have h1 := free_bound (v0, m0) k
        have h2 := pop_le (hb m0 (Int.ofNat k))
        rw [wrap_i64 (by omega) (by omega)]; rfl
      have h3 : 0 ≤ hb m0 (Int.ofNat k) ∧ hb m0 (Int.ofNat k) < 256 := by
        have := hbn_lt' m0 (Int.ofNat k).toNat
        simp only [hb]
        omega
      rw [hw, hf]
      exact ⟨⟨⟨Int.natCast_nonneg k, hlt⟩, trivial⟩, ⟨⟨h3, trivial⟩, trivial⟩, k + 1, by omega, by omega, ⟨rfl, rfl, rfl, trivial⟩, trivial⟩
    · have hge : ¬ (k : Int) < 13 := by simpa using hge
      have : k = 13 := by omega
      subst this
      rfl

theorem plain78 : Plainly Try.prog 78 := ⟨Try.f78, Try.func78, by kernel_rfl, by kernel_rfl⟩
theorem ok78 (u : Lk) : SpecOK Try.prog 78 (freeS u) := fun args q r h hq => by
  obtain ⟨v0, m0, rfl, rfl⟩ := freeS_spec h
  exact fn_ok (u := u) Try.func78 rfl (fns_cons plain114 (ok114 u) fns_nil) rfl rfl (walk78 u v0 m0)


end Mx

