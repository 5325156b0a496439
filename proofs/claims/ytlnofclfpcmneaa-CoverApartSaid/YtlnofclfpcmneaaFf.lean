/- Text. Own work. -/
import Derived.Test.YtlnofclfpcmneaaFe
namespace Mx
open Go Go.Proofs
def charM (c : Cu) (i : Int) : Int := bif bitM c.2 i then (bif bitM c.1 i then 49 else 48) else 42
def charsM (c : Cu) (n : Nat) : List Int := (List.range n).map fun (i : Nat) => charM c (i : Int)
def textM (c : Cu) : ByteArray := strOf (charsM c 104)
theorem chars_succ (c : Cu) (n : Nat) : charsM c (n + 1) = charsM c n ++ [charM c (n : Int)] := by simp [charsM, List.range_succ]
theorem chars_len (c : Cu) (n : Nat) : (charsM c n).length = n := by simp [charsM]

def textS (u : Lk) : Spec
  | [.pr (.hd v0) (.hd m0)] => some (True, (.s (lk1 u textM (v0, m0))))
  | _ => none
theorem textS_spec {u : Lk} {args : List SV} {q : Prop} {r : SV} (h : textS u args = some (q, r)) : ∃ v0 m0, args = [.pr (.hd v0) (.hd m0)] ∧ r = (.s (lk1 u textM (v0, m0))) := by
  unfold textS at h
  split at h
  · simp only [Option.some.injEq, Prod.mk.injEq] at h
    exact ⟨_, _, rfl, h.2.symm⟩
  · cases h

set_option maxRecDepth 100000 in
theorem walk80 (u : Lk) (v0 : Hd) (m0 : Hd) : Walk Try.f80 (Try.f80.body.getD .skip) [(107, bitS u)] u [.pr (.hd v0) (.hd m0)] (.s (lk1 u textM (v0, m0))) := by
  intro L hL
  cbv
  refine hL Nat (fun k => k ≤ 104) (fun k => 104 - k)
    (fun k => ⟨[(6, .i .i64 (lk1 u (fun (k : Nat) => (k : Int)) k)), (3, .ow 5 (.sl .u8 (lk2 u charsM (v0, m0) k))), (1, .p 1 [] 0)], [(5, .own 5 .u8), (1, .box 36 (.pr (.hd v0) (.hd m0)))]⟩) _ _ _ 0 ?_ ?_ ?_ ?_
  · intro l st hk
    exact hk
  · simp
  · cbv
    obtain rfl := Lk.eq_std u
    simp only [Lk.std]
    exact ⟨⟨rfl, rfl, trivial⟩, trivial, trivial⟩
  · rintro k hk
    cbv
    obtain rfl := Lk.eq_std u
    simp only [Lk.std]
    have step : ∀ c : Int, charM (v0, m0) (k : Int) = c → (charsM (v0, m0) k).append [c] = charsM (v0, m0) (k + 1) := fun c hc => by rw [chars_succ, hc]; rfl
    have hlen : ∀ c : Int, lenS (.sl .u8 ((charsM (v0, m0) k).append [c])) = (k : Int) + 1 := fun c => by
      simp only [lenS, List.append_eq, List.length_append, chars_len, List.length_cons, List.length_nil]
      omega
    refine ⟨fun hlt => ?_, fun hge => ?_⟩
    · have hlt : (k : Int) < 104 := by simpa using hlt
      have hw : IntKind.i64.wrap (Int.ofNat k + 1) = ((k + 1 : Nat) : Int) := by
        show IntKind.i64.wrap ((k : Int) + 1) = _
        rw [wrap_i64 (by omega) (by omega)]; omega
      rw [hw]
      refine ⟨fun hm => ?_, fun hm => ⟨fun hv => ?_, fun hv => ?_⟩⟩
      · have hc : charM (v0, m0) (k : Int) = 42 := by
          have : bitM m0 (k : Int) = false := by simpa using hm
          simp [charM, this]
        rw [step 42 hc] 
        refine ⟨⟨by rw [← step 42 hc, hlen]; omega, trivial⟩, k + 1, by omega, by omega, ⟨rfl, rfl, rfl, trivial⟩, rfl, rfl, trivial⟩
      · have hc : charM (v0, m0) (k : Int) = 49 := by
          have h1 : bitM m0 (k : Int) = true := by simpa using hm
          have h2 : bitM v0 (k : Int) = true := hv
          simp [charM, h1, h2]
        rw [step 49 hc]
        refine ⟨⟨by rw [← step 49 hc, hlen]; omega, trivial⟩, k + 1, by omega, by omega, ⟨rfl, rfl, rfl, trivial⟩, rfl, rfl, trivial⟩
      · have hc : charM (v0, m0) (k : Int) = 48 := by
          have h1 : bitM m0 (k : Int) = true := by simpa using hm
          have h2 : bitM v0 (k : Int) = false := hv
          simp [charM, h1, h2]
        rw [step 48 hc]
        refine ⟨⟨by rw [← step 48 hc, hlen]; omega, trivial⟩, k + 1, by omega, by omega, ⟨rfl, rfl, rfl, trivial⟩, rfl, rfl, trivial⟩
    · have hge : ¬ (k : Int) < 104 := by simpa using hge
      have : k = 104 := by omega
      rw [this]; rfl

theorem plain80 : Plainly Try.prog 80 := ⟨Try.f80, Try.func80, by kernel_rfl, by kernel_rfl⟩
theorem ok80 (u : Lk) : SpecOK Try.prog 80 (textS u) := fun args q r h hq => by
  obtain ⟨v0, m0, rfl, rfl⟩ := textS_spec h
  exact fn_ok (u := u) Try.func80 rfl (fns_cons plain107 (ok107 u) fns_nil) rfl rfl (walk80 u v0 m0)



end Mx
