/- head.Bit, head.Flip, the reference's Bit and Put. Own work. -/
import Derived.Test.YtlnofclfpcmneaaBa
import Derived.Test.YtlnofclfpcmneaaPa
namespace Mx
open Go Go.Proofs
def bitS (u : Lk) : Spec
  | [.hd h, .i .i64 i] => some (True, .b (lk2 u bitM h i))
  | _ => none
theorem le_raw (a b : Int) : Int.le a b = (a ≤ b) := rfl
theorem bits8 : IntKind.u8.bits = 8 := rfl
theorem div8 {i : Int} (h0 : 0 ≤ i) (h1 : i < 104) : 0 ≤ IntKind.i64.wrap (i.tdiv 8) ∧ IntKind.i64.wrap (i.tdiv 8) < 13 := by
  rw [Int.tdiv_eq_ediv_of_nonneg h0, wrap_i64 (by omega) (by omega)]; omega
theorem mod8 {i : Int} (h0 : 0 ≤ i) : 0 ≤ i.tmod 8 := by rw [Int.tmod_eq_emod_of_nonneg h0]; omega
theorem sub7 {i : Int} (h0 : 0 ≤ i) : 0 ≤ IntKind.i64.wrap (7 - i.tmod 8) := by
  rw [Int.tmod_eq_emod_of_nonneg h0, wrap_i64 (by omega) (by omega)]; omega
set_option maxRecDepth 100000 in
theorem walk107 (u : Lk) (h : Hd) (i : Int) : Walk Try.f107 (Try.f107.body.getD .skip) [] u [.hd h, .i .i64 i] (.b (lk2 u bitM h i)) := by
  intro L hL
  clear hL
  cbv
  obtain rfl := Lk.eq_std u
  simp only [Lk.std]
  by_cases h0 : 0 ≤ i
  · by_cases h1 : i < 104
    · have a1 := div8 h0 h1
      have a2 := mod8 h0
      have a3 := bit_go h i h0 h1
      simp only [h0, h1, a1.1, a1.2, a2, le_raw, bits8, decide_true, cond_true, a3]
      simp
    · simp [h0, h1, bitM]
  · simp [h0, bitM]
set_option maxRecDepth 100000 in
theorem walk111 (u : Lk) (h : Hd) (i : Int) : Walk Try.f111 (Try.f111.body.getD .skip) [] u [.hd h, .i .i64 i] (.b (lk2 u bitM h i)) := by
  intro L hL
  clear hL
  cbv
  obtain rfl := Lk.eq_std u
  simp only [Lk.std]
  by_cases h0 : i < 0
  · simp [h0, bitM]
    omega
  · by_cases h1 : 103 < i
    · simp [h0, h1, bitM]
      omega
    · have h0' : 0 ≤ i := by omega
      have h1' : i < 104 := by omega
      have a1 := div8 h0' h1'
      have a2 := mod8 h0'
      have a3 := bit_ref h i h0' h1'
      have a4 := sub7 h0'
      simp only [h0, h1, a1.1, a1.2, a4, le_raw, bits8, decide_false, cond_false]
      simp
      exact a3
theorem plain107 : Plainly Try.prog 107 := ⟨Try.f107, Try.func107, by kernel_rfl, by kernel_rfl⟩
theorem plain111 : Plainly Try.prog 111 := ⟨Try.f111, Try.func111, by kernel_rfl, by kernel_rfl⟩
theorem bitS_spec {u : Lk} {args : List SV} {q : Prop} {r : SV} (h : bitS u args = some (q, r)) : ∃ x i, args = [.hd x, .i .i64 i] ∧ r = .b (lk2 u bitM x i) := by
  unfold bitS at h
  split at h
  · simp only [Option.some.injEq, Prod.mk.injEq] at h
    exact ⟨_, _, rfl, h.2.symm⟩
  · cases h
theorem ok107 (u : Lk) : SpecOK Try.prog 107 (bitS u) := fun args q r h hq => by
  obtain ⟨x, i, rfl, rfl⟩ := bitS_spec h
  exact fn_ok (u := u) Try.func107 rfl fns_nil rfl rfl (walk107 u x i)
theorem ok111 (u : Lk) : SpecOK Try.prog 111 (bitS u) := fun args q r h hq => by
  obtain ⟨x, i, rfl, rfl⟩ := bitS_spec h
  exact fn_ok (u := u) Try.func111 rfl fns_nil rfl rfl (walk111 u x i)
def flipS (u : Lk) : Spec
  | [.hd h, .i .i64 i] => some (True, .hd (lk2 u flipM h i))
  | _ => none
set_option maxRecDepth 100000 in
theorem walk113 (u : Lk) (h : Hd) (i : Int) : Walk Try.f113 (Try.f113.body.getD .skip) [] u [.hd h, .i .i64 i] (.hd (lk2 u flipM h i)) := by
  intro L hL
  clear hL
  cbv
  obtain rfl := Lk.eq_std u
  simp only [Lk.std]
  by_cases h0 : 0 ≤ i
  · by_cases h1 : i < 104
    · have a1 := div8 h0 h1
      have a2 := mod8 h0
      have a3 := flip_go h i h0 h1
      have a4 := xor_byte h i h0 h1
      simp only [h0, h1, a1.1, a1.2, a2, a4.1, a4.2, le_raw, bits8, decide_true, cond_true, a3]
      simp
    · simp [h0, h1, flipM]
  · simp [h0, flipM]
def putS (u : Lk) : Spec
  | [.hd h, .i .i64 i, .b x] => some (True, .hd (lk3 u putM h i x))
  | _ => none
set_option maxRecDepth 100000 in
theorem walk112 (u : Lk) (h : Hd) (i : Int) (x : Bool) : Walk Try.f112 (Try.f112.body.getD .skip) [(111, bitS u)] u [.hd h, .i .i64 i, .b x] (.hd (lk3 u putM h i x)) := by
  intro L hL
  clear hL
  cbv
  obtain rfl := Lk.eq_std u
  simp only [Lk.std]
  by_cases hb : bitM h i = x
  · simp [hb, putM]
  · by_cases h0 : 0 ≤ i
    · by_cases h1 : i < 104
      · have a1 := div8 h0 h1
        have a2 := mod8 h0
        have a3 := flip_go h i h0 h1
        have a4 := xor_byte h i h0 h1
        have h0' : ¬ i < 0 := by omega
        have h1' : ¬ 103 < i := by omega
        have hput : putM h i x = flipM h i := by
          have : (bitM h i == x) = false := by simpa using hb
          rw [putM, this]; rfl
        cases x with
        | true =>
          have a5 := plus_xor h i h0 h1 (by simpa using hb)
          simp only [a5, a1.1, a1.2, a2, a3, a4.1, a4.2, le_raw, bits8, hput]
          simp [hb, h0', h1']
        | false =>
          have a5 := minus_xor h i h0 h1 (by simpa using hb)
          simp only [a5, a1.1, a1.2, a2, a3, a4.1, a4.2, le_raw, bits8, hput]
          simp [hb, h0', h1']
      · have h1' : 103 < i := by omega
        have h0' : ¬ i < 0 := by omega
        simp [hb, h0', h1', h1, putM, flipM]
    · have h0' : i < 0 := by omega
      simp [hb, h0', h0, putM, flipM]
theorem flipS_spec {u : Lk} {args : List SV} {q : Prop} {r : SV} (h : flipS u args = some (q, r)) : ∃ x i, args = [.hd x, .i .i64 i] ∧ r = .hd (lk2 u flipM x i) := by
  unfold flipS at h
  split at h
  · simp only [Option.some.injEq, Prod.mk.injEq] at h
    exact ⟨_, _, rfl, h.2.symm⟩
  · cases h
theorem putS_spec {u : Lk} {args : List SV} {q : Prop} {r : SV} (h : putS u args = some (q, r)) : ∃ x i b, args = [.hd x, .i .i64 i, .b b] ∧ r = .hd (lk3 u putM x i b) := by
  unfold putS at h
  split at h
  · simp only [Option.some.injEq, Prod.mk.injEq] at h
    exact ⟨_, _, _, rfl, h.2.symm⟩
  · cases h
theorem plain112 : Plainly Try.prog 112 := ⟨Try.f112, Try.func112, by kernel_rfl, by kernel_rfl⟩
theorem plain113 : Plainly Try.prog 113 := ⟨Try.f113, Try.func113, by kernel_rfl, by kernel_rfl⟩
theorem ok113 (u : Lk) : SpecOK Try.prog 113 (flipS u) := fun args q r h hq => by
  obtain ⟨x, i, rfl, rfl⟩ := flipS_spec h
  exact fn_ok (u := u) Try.func113 rfl fns_nil rfl rfl (walk113 u x i)
theorem ok112 (u : Lk) : SpecOK Try.prog 112 (putS u) := fun args q r h hq => by
  obtain ⟨x, i, b, rfl, rfl⟩ := putS_spec h
  exact fn_ok (u := u) Try.func112 rfl (fns_cons plain111 (ok111 u) fns_nil) rfl rfl (walk112 u x i b)
end Mx
