/- The reference's Has; All, Of, Loose, Fix, Split. Own work. -/
import Derived.Test.YtlnofclfpcmneaaFc
namespace Mx
open Go Go.Proofs
theorem has_bits (v m h : Hd) : hasM v m h = true ↔ ∀ j, j < 104 → m.getMsbD j = true → v.getMsbD j = h.getMsbD j := by
  unfold hasM
  rw [beq_iff_eq]
  constructor
  · intro e j hj hm
    have := congrArg (fun x : Hd => x.getMsbD j) e
    simp only [BitVec.getMsbD_and, BitVec.getMsbD_xor, hm, Bool.and_true] at this
    simpa using this
  · intro e
    refine hd_ext_msb fun j hj => ?_
    rw [BitVec.getMsbD_and, BitVec.getMsbD_xor]
    cases hm : m.getMsbD j with
    | false => simp
    | true => rw [e j hj hm]; simp
def inM (i : Int) : Bool := decide (0 ≤ i) && decide (i < 104)
def looseC (c : Cu) (i : Int) : Cu := bif inM i then canonM (c.1, putM c.2 i false) else (0, 0)
def rangeE (_ : Cu) (i : Int) : Int := bif inM i then 0 else 3
def fixC (c : Cu) (i : Int) (b : Bool) : Cu := bif inM i then (bif b then flipM (looseC c i).1 i else (looseC c i).1, flipM (looseC c i).2 i) else (0, 0)
def rangeE3 (_ : Cu) (i : Int) (_ : Bool) : Int := bif inM i then 0 else 3

set_option maxRecDepth 100000 in
theorem walk74 (u : Lk) (v m h : Hd) : Walk Try.f74 (Try.f74.body.getD .skip) [(56, atS u), (111, bitS u)] u [.pr (.hd v) (.hd m), .hd h] (.b (lk3 u hasM v m h)) := by
  intro L hL
  cbv
  refine hL Int (fun k => 0 ≤ k ∧ k ≤ 104 ∧ ∀ j : Nat, j < k.toNat → m.getMsbD j = true → v.getMsbD j = h.getMsbD j) (fun k => (104 - k).toNat)
    (fun k => ⟨[(5, .i .i64 k), (2, .p 2 [] 0), (3, .p 3 [] 0), (4, .b false)], [(3, .box 34 (.hd h)), (2, .box 36 (.pr (.hd v) (.hd m)))]⟩) _ _ _ 0 ?_ ?_ ?_ ?_
  · intro l st hk
    exact hk
  · exact ⟨by simp, by simp, fun j hj => by simp at hj⟩
  · cbv
  · rintro k hk
    cbv
    obtain rfl := Lk.eq_std u
    simp only [Lk.std]
    obtain ⟨h0, h1, hj⟩ := hk
    obtain ⟨n, rfl⟩ := Int.eq_ofNat_of_zero_le h0
    refine ⟨fun hlt => ?_, fun hge => ?_⟩
    · have hlt : (n : Int) < 104 := by simpa using hlt
      have e2 := at_two v m (n := n) (by omega)
      have e1 : decide (atM v m n = 1) = (m.getMsbD n && v.getMsbD n) := at_one v m (n := n) (by omega)
      have e3 := bitM_nat h (n := n) (by omega)
      refine ⟨by cases (atM v m n != 2) <;> simp, fun hne => ?_, fun he => ?_⟩
      · rw [e1, e2, e3] at hne
        congr 1
        cases hh : hasM v m h with
        | false => rfl
        | true =>
          have := (has_bits v m h).1 hh n (by omega)
          cases hm : m.getMsbD n with
          | false => rw [hm] at hne; cases hne
          | true => rw [hm, this hm] at hne; simp at hne
      · rw [wrap_i64 (by omega) (by omega)]
        refine ⟨(n : Int) + 1, ⟨by omega, by omega, fun j hj' hm => ?_⟩, by omega, ⟨rfl, rfl, rfl, rfl, trivial⟩, rfl, rfl, trivial⟩
        by_cases hjn : j = n
        · subst hjn
          rw [e1, e2, e3, hm] at he
          simpa using he
        · exact hj j (by omega) hm
    · have hge : ¬ (n : Int) < 104 := by simpa using hge
      congr 1
      symm
      exact (has_bits v m h).2 fun j hj' hm => hj j (by omega) hm
theorem plain74 : Plainly Try.prog 74 := ⟨Try.f74, Try.func74, by kernel_rfl, by kernel_rfl⟩
theorem ok74 (u : Lk) : SpecOK Try.prog 74 (hasS u) := fun args q r h hq => by
  obtain ⟨v, m, x, rfl, rfl⟩ := hasS_spec h
  exact fn_ok (u := u) Try.func74 rfl (fns_cons plain56 (ok56 u) (fns_cons plain111 (ok111 u) fns_nil)) rfl rfl (walk74 u v m x)

def allS (u : Lk) : Spec
  | [] => some (True, (.pr (.hd (((0, 0) : Cu)).1) (.hd (((0, 0) : Cu)).2)))
  | _ => none
theorem allS_spec {u : Lk} {args : List SV} {q : Prop} {r : SV} (h : allS u args = some (q, r)) : args = [] ∧ r = (.pr (.hd (((0, 0) : Cu)).1) (.hd (((0, 0) : Cu)).2)) := by
  unfold allS at h
  split at h
  · simp only [Option.some.injEq, Prod.mk.injEq] at h
    exact ⟨rfl, h.2.symm⟩
  · cases h

def looseS (u : Lk) : Spec
  | [.pr (.hd v0) (.hd m0), .i .i64 n1] => some (True, (.tp (.pr (.hd (lk2 u (fun x0 x1 => (looseC x0 x1).1) (v0, m0) n1)) (.hd (lk2 u (fun x0 x1 => (looseC x0 x1).2) (v0, m0) n1))) (.i .i64 (lk2 u rangeE (v0, m0) n1))))
  | _ => none
theorem looseS_spec {u : Lk} {args : List SV} {q : Prop} {r : SV} (h : looseS u args = some (q, r)) : ∃ v0 m0 n1, args = [.pr (.hd v0) (.hd m0), .i .i64 n1] ∧ r = (.tp (.pr (.hd (lk2 u (fun x0 x1 => (looseC x0 x1).1) (v0, m0) n1)) (.hd (lk2 u (fun x0 x1 => (looseC x0 x1).2) (v0, m0) n1))) (.i .i64 (lk2 u rangeE (v0, m0) n1))) := by
  unfold looseS at h
  split at h
  · simp only [Option.some.injEq, Prod.mk.injEq] at h
    exact ⟨_, _, _, rfl, h.2.symm⟩
  · cases h

set_option maxRecDepth 100000 in
theorem walk64 (u : Lk) (v0 : Hd) (m0 : Hd) (n1 : Int) : Walk Try.f64 (Try.f64.body.getD .skip) [(107, bitS u), (113, flipS u), (73, canonS u)] u [.pr (.hd v0) (.hd m0), .i .i64 n1] (.tp (.pr (.hd (lk2 u (fun x0 x1 => (looseC x0 x1).1) (v0, m0) n1)) (.hd (lk2 u (fun x0 x1 => (looseC x0 x1).2) (v0, m0) n1))) (.i .i64 (lk2 u rangeE (v0, m0) n1))) := by
  intro L hL
  clear hL
  cbv
  obtain rfl := Lk.eq_std u
  simp only [Lk.std]
  by_cases h0 : n1 < 0
  · have hin : inM n1 = false := by simp [inM]; omega
    simp [h0, looseC, rangeE, hin]
  · by_cases h1 : 104 ≤ n1
    · have hin : inM n1 = false := by simp [inM]; omega
      simp [h0, h1, looseC, rangeE, hin]
    · have hin : inM n1 = true := by simp [inM]; omega
      cases hb : bitM m0 n1 <;> simp [h0, h1, looseC, rangeE, hin, putM, hb]

theorem plain64 : Plainly Try.prog 64 := ⟨Try.f64, Try.func64, by kernel_rfl, by kernel_rfl⟩
theorem ok64 (u : Lk) : SpecOK Try.prog 64 (looseS u) := fun args q r h hq => by
  obtain ⟨v0, m0, n1, rfl, rfl⟩ := looseS_spec h
  exact fn_ok (u := u) Try.func64 rfl (fns_cons plain107 (ok107 u) (fns_cons plain113 (ok113 u) (fns_cons plain73 (ok73 u) fns_nil))) rfl rfl (walk64 u v0 m0 n1)

def fixS (u : Lk) : Spec
  | [.pr (.hd v0) (.hd m0), .i .i64 n1, .b b2] => some (True, (.tp (.pr (.hd (lk3 u (fun x0 x1 x2 => (fixC x0 x1 x2).1) (v0, m0) n1 b2)) (.hd (lk3 u (fun x0 x1 x2 => (fixC x0 x1 x2).2) (v0, m0) n1 b2))) (.i .i64 (lk3 u rangeE3 (v0, m0) n1 b2))))
  | _ => none
theorem fixS_spec {u : Lk} {args : List SV} {q : Prop} {r : SV} (h : fixS u args = some (q, r)) : ∃ v0 m0 n1 b2, args = [.pr (.hd v0) (.hd m0), .i .i64 n1, .b b2] ∧ r = (.tp (.pr (.hd (lk3 u (fun x0 x1 x2 => (fixC x0 x1 x2).1) (v0, m0) n1 b2)) (.hd (lk3 u (fun x0 x1 x2 => (fixC x0 x1 x2).2) (v0, m0) n1 b2))) (.i .i64 (lk3 u rangeE3 (v0, m0) n1 b2))) := by
  unfold fixS at h
  split at h
  · simp only [Option.some.injEq, Prod.mk.injEq] at h
    exact ⟨_, _, _, _, rfl, h.2.symm⟩
  · cases h

set_option maxRecDepth 100000 in
theorem walk63 (u : Lk) (v0 : Hd) (m0 : Hd) (n1 : Int) (b2 : Bool) : Walk Try.f63 (Try.f63.body.getD .skip) [(64, looseS u), (113, flipS u)] u [.pr (.hd v0) (.hd m0), .i .i64 n1, .b b2] (.tp (.pr (.hd (lk3 u (fun x0 x1 x2 => (fixC x0 x1 x2).1) (v0, m0) n1 b2)) (.hd (lk3 u (fun x0 x1 x2 => (fixC x0 x1 x2).2) (v0, m0) n1 b2))) (.i .i64 (lk3 u rangeE3 (v0, m0) n1 b2))) := by
  intro L hL
  clear hL
  cbv
  obtain rfl := Lk.eq_std u
  simp only [Lk.std]
  cases hin : inM n1 <;> cases b2 <;> simp [fixC, looseC, rangeE, rangeE3, hin]

theorem plain63 : Plainly Try.prog 63 := ⟨Try.f63, Try.func63, by kernel_rfl, by kernel_rfl⟩
theorem ok63 (u : Lk) : SpecOK Try.prog 63 (fixS u) := fun args q r h hq => by
  obtain ⟨v0, m0, n1, b2, rfl, rfl⟩ := fixS_spec h
  exact fn_ok (u := u) Try.func63 rfl (fns_cons plain64 (ok64 u) (fns_cons plain113 (ok113 u) fns_nil)) rfl rfl (walk63 u v0 m0 n1 b2)

theorem plain72 : Plainly Try.prog 72 := ⟨Try.f72, Try.func72, by kernel_rfl, by kernel_rfl⟩
theorem ok72 (u : Lk) : SpecOK Try.prog 72 (allS u) := fun args q r h hq => by
  obtain ⟨rfl, rfl⟩ := allS_spec h
  exact fn_ok (u := u) Try.func72 rfl fns_nil rfl rfl (walk72 u)

end Mx
