/- Around: meetings, odd bits, first rules, what is clear. Own work. -/
import Derived.Test.YtlnofclfpcmneaaPd
namespace Mx
open Go Go.Proofs
def meetsS (u : Lk) : Spec
  | [.pr (.hd v0) (.hd m0), .pr (.hd v1) (.hd m1)] => some (True, (.b (lk2 u meetOk (v0, m0) (v1, m1))))
  | _ => none
theorem meetsS_spec {u : Lk} {args : List SV} {q : Prop} {r : SV} (h : meetsS u args = some (q, r)) : ∃ v0 m0 v1 m1, args = [.pr (.hd v0) (.hd m0), .pr (.hd v1) (.hd m1)] ∧ r = (.b (lk2 u meetOk (v0, m0) (v1, m1))) := by
  unfold meetsS at h
  split at h
  · simp only [Option.some.injEq, Prod.mk.injEq] at h
    exact ⟨_, _, _, _, rfl, h.2.symm⟩
  · cases h

noncomputable def reg127_4 : Array Oper := ((regAt (Try.f127.body.getD .skip) 4).getD #[])
theorem drawn127_4 : drawT reg127_4 = true := by decide +kernel
noncomputable def tab127 : Tab := [(4, ⟨reg127_4, drawn127_4⟩)]
set_option maxRecDepth 100000 in
theorem walk127 (u : Lk) (v0 : Hd) (m0 : Hd) (v1 : Hd) (m1 : Hd) : WalkT tab127 131263 Try.f127 (Try.f127.body.getD .skip) [(56, atS u)] u [.pr (.hd v0) (.hd m0), .pr (.hd v1) (.hd m1)] (.b (lk2 u meetOk (v0, m0) (v1, m1))) := by
  intro L hL
  cbv
  refine hL Nat (fun k => k ≤ 104 ∧ ∀ j : Nat, j < k → (m0.getMsbD j && m1.getMsbD j && (v0.getMsbD j ^^ v1.getMsbD j)) = false) (fun k => 104 - k)
    (fun k => ⟨[(5, .i .i64 (lk1 u (fun (k : Nat) => (k : Int)) k)), (3, .p 3 [] 0), (2, .p 2 [] 0)], [(3, .box 36 (.pr (.hd v1) (.hd m1))), (2, .box 36 (.pr (.hd v0) (.hd m0)))]⟩) _ _ _ 0 ?_ ?_ ?_ ?_
  · intro l st hk
    exact hk
  · exact ⟨by simp, fun j hj => by omega⟩
  · cbv
    all_goals (obtain rfl := Lk.eq_std u; try simp only [Lk.std])
    all_goals (repeat' first | exact trivial | rfl | refine ⟨?_, ?_⟩)
  · rintro k ⟨hk, hj⟩
    clear hL
    cbv
    obtain rfl := Lk.eq_std u
    simp only [Lk.std]
    refine ⟨fun hlt => ?_, fun hge => ?_⟩
    · have hlt : (k : Int) < 104 := by simpa using hlt
      rw [wrap_succ k (by omega)]
      have e := at_sum v0 m0 v1 m1 (n := k) (by omega)
      refine ⟨fun hb => ?_, fun hb => ?_⟩
      · have hb : (IntKind.i64.wrap (atM v0 m0 (k : Nat) + atM v1 m1 (k : Nat)) == 1) = true := hb
        rw [e] at hb
        have : meetOk (v0, m0) (v1, m1) = false := by
          cases h : meetOk (v0, m0) (v1, m1)
          · rfl
          · rw [(meet_bits _ _ _ _).1 h k (by omega)] at hb; cases hb
        rw [this]
      · have hb : (IntKind.i64.wrap (atM v0 m0 (k : Nat) + atM v1 m1 (k : Nat)) == 1) = false := hb
        rw [e] at hb
        refine ⟨k + 1, ⟨by omega, fun j hj' => ?_⟩, by omega, by (repeat' first | exact trivial | rfl | refine ⟨?_, ?_⟩)⟩
        by_cases hjk : j = k
        · rw [hjk]; exact hb
        · exact hj j (by omega)
    · have hge : ¬ (k : Int) < 104 := by simpa using hge
      have : meetOk (v0, m0) (v1, m1) = true := (meet_bits _ _ _ _).2 fun j hj' => hj j (by omega)
      rw [this]

theorem plain127 : Plainly Try.prog 127 := ⟨Try.f127, Try.func127, by kernel_rfl, by kernel_rfl⟩
theorem ok127 (u : Lk) : SpecOK Try.prog 127 (meetsS u) := fun args q r h hq => by
  obtain ⟨v0, m0, v1, m1, rfl, rfl⟩ := meetsS_spec h
  exact fn_okT (u := u) Try.func127 rfl (fns_cons plain56 (ok56 u) fns_nil) rfl rfl (walk127 u v0 m0 v1 m1)

noncomputable def tab108 : Tab := []
set_option maxRecDepth 100000 in
theorem walk108 (u : Lk) (v0 : Hd) (m0 : Hd) (v1 : Hd) (m1 : Hd) : WalkT tab108 31 Try.f108 (Try.f108.body.getD .skip) [(127, meetsS u)] u [.pr (.hd v0) (.hd m0), .pr (.hd v1) (.hd m1)] (.b (lk2 u meetOk (v0, m0) (v1, m1))) := by
  intro L hL
  clear hL
  cbv

theorem plain108 : Plainly Try.prog 108 := ⟨Try.f108, Try.func108, by kernel_rfl, by kernel_rfl⟩
theorem ok108 (u : Lk) : SpecOK Try.prog 108 (meetsS u) := fun args q r h hq => by
  obtain ⟨v0, m0, v1, m1, rfl, rfl⟩ := meetsS_spec h
  exact fn_okT (u := u) Try.func108 rfl (fns_cons plain127 (ok127 u) fns_nil) rfl rfl (walk108 u v0 m0 v1 m1)

def valS (u : Lk) : Spec
  | [.hd h0, .i .i64 n1] => some (True, (.i .i64 (lk2 u valM h0 n1)))
  | _ => none
theorem valS_spec {u : Lk} {args : List SV} {q : Prop} {r : SV} (h : valS u args = some (q, r)) : ∃ h0 n1, args = [.hd h0, .i .i64 n1] ∧ r = (.i .i64 (lk2 u valM h0 n1)) := by
  unfold valS at h
  split at h
  · simp only [Option.some.injEq, Prod.mk.injEq] at h
    exact ⟨_, _, rfl, h.2.symm⟩
  · cases h

noncomputable def tab110 : Tab := []
set_option maxRecDepth 100000 in
theorem walk110 (u : Lk) (h0 : Hd) (n1 : Int) : WalkT tab110 151 Try.f110 (Try.f110.body.getD .skip) [(111, bitS u)] u [.hd h0, .i .i64 n1] (.i .i64 (lk2 u valM h0 n1)) := by
  intro L hL
  clear hL
  cbv
  obtain rfl := Lk.eq_std u
  simp only [Lk.std]
  refine ⟨fun h => ?_, fun h => ?_⟩
  · have h : bitM h0 n1 = true := h
    simp only [valM, h, cond_true]
  · have h : bitM h0 n1 = false := h
    simp only [valM, h, cond_false]

theorem plain110 : Plainly Try.prog 110 := ⟨Try.f110, Try.func110, by kernel_rfl, by kernel_rfl⟩
theorem ok110 (u : Lk) : SpecOK Try.prog 110 (valS u) := fun args q r h hq => by
  obtain ⟨h0, n1, rfl, rfl⟩ := valS_spec h
  exact fn_okT (u := u) Try.func110 rfl (fns_cons plain111 (ok111 u) fns_nil) rfl rfl (walk110 u h0 n1)

def oddS (u : Lk) : Spec
  | [.pr (.hd v0) (.hd m0), .hd h1] => some (True, (.i .i64 (lk2 u oddM (v0, m0) h1)))
  | _ => none
theorem oddS_spec {u : Lk} {args : List SV} {q : Prop} {r : SV} (h : oddS u args = some (q, r)) : ∃ v0 m0 h1, args = [.pr (.hd v0) (.hd m0), .hd h1] ∧ r = (.i .i64 (lk2 u oddM (v0, m0) h1)) := by
  unfold oddS at h
  split at h
  · simp only [Option.some.injEq, Prod.mk.injEq] at h
    exact ⟨_, _, _, rfl, h.2.symm⟩
  · cases h

noncomputable def reg109_4 : Array Oper := ((regAt (Try.f109.body.getD .skip) 4).getD #[])
theorem drawn109_4 : drawT reg109_4 = true := by decide +kernel
noncomputable def tab109 : Tab := [(4, ⟨reg109_4, drawn109_4⟩)]
set_option maxRecDepth 100000 in
theorem walk109 (u : Lk) (v0 : Hd) (m0 : Hd) (h1 : Hd) : WalkT tab109 131263 Try.f109 (Try.f109.body.getD .skip) [(56, atS u), (110, valS u)] u [.pr (.hd v0) (.hd m0), .hd h1] (.i .i64 (lk2 u oddM (v0, m0) h1)) := by
  intro L hL
  cbv
  refine hL Nat (fun k => k ≤ 104 ∧ ∀ j : Nat, j < k → oddP (v0, m0) h1 j = false) (fun k => 104 - k)
    (fun k => ⟨[(5, .i .i64 (lk1 u (fun (k : Nat) => (k : Int)) k)), (3, .p 3 [] 0), (2, .p 2 [] 0)], [(3, .box 34 (.hd h1)), (2, .box 36 (.pr (.hd v0) (.hd m0)))]⟩) _ _ _ 0 ?_ ?_ ?_ ?_
  · intro l st hk
    exact hk
  · exact ⟨by simp, fun j hj => by omega⟩
  · cbv
    all_goals (obtain rfl := Lk.eq_std u; try simp only [Lk.std])
    all_goals (repeat' first | exact trivial | rfl | refine ⟨?_, ?_⟩)
  · rintro k ⟨hk, hj⟩
    clear hL
    cbv
    obtain rfl := Lk.eq_std u
    simp only [Lk.std]
    refine ⟨fun hlt => ?_, fun hge => ?_⟩
    · have hlt : (k : Int) < 104 := by simpa using hlt
      rw [wrap_succ k (by omega)]
      have hv := val_range h1 (k : Nat)
      have hw : IntKind.i64.wrap (1 - valM h1 (Int.ofNat k)) = 1 - valM h1 (k : Nat) := wrap_i64 (by show _ ≤ 1 - valM h1 (k : Nat); omega) (by show 1 - valM h1 (k : Nat) < _; omega)
      rw [hw]
      refine ⟨fun hb => ?_, fun hb => ?_⟩
      · have hb : oddP (v0, m0) h1 k = true := hb
        have : oddN (v0, m0) h1 = k := idx_range (by omega) hb hj
        rw [oddM, this]; rfl
      · have hb : oddP (v0, m0) h1 k = false := hb
        refine ⟨k + 1, ⟨by omega, fun j hj' => ?_⟩, by omega, by (repeat' first | exact trivial | rfl | refine ⟨?_, ?_⟩)⟩
        by_cases hjk : j = k
        · rw [hjk]; exact hb
        · exact hj j (by omega)
    · have hge : ¬ (k : Int) < 104 := by simpa using hge
      have : oddN (v0, m0) h1 = 104 := idx_range_none fun j hj' => hj j (by omega)
      rw [oddM, this]; rfl

theorem plain109 : Plainly Try.prog 109 := ⟨Try.f109, Try.func109, by kernel_rfl, by kernel_rfl⟩
theorem ok109 (u : Lk) : SpecOK Try.prog 109 (oddS u) := fun args q r h hq => by
  obtain ⟨v0, m0, h1, rfl, rfl⟩ := oddS_spec h
  exact fn_okT (u := u) Try.func109 rfl (fns_cons plain56 (ok56 u) (fns_cons plain110 (ok110 u) fns_nil)) rfl rfl (walk109 u v0 m0 h1)

def firstS (u : Lk) : Spec
  | [.sl .rule l0, .hd h1] => some (lq1 u small l0, (.i .i64 (lk2 u firstM l0 h1)))
  | _ => none
theorem firstS_spec {u : Lk} {args : List SV} {q : Prop} {r : SV} (h : firstS u args = some (q, r)) : ∃ l0 h1, args = [.sl .rule l0, .hd h1] ∧ r = (.i .i64 (lk2 u firstM l0 h1)) ∧ q = (lq1 u small l0) := by
  unfold firstS at h
  split at h
  · simp only [Option.some.injEq, Prod.mk.injEq] at h
    exact ⟨_, _, rfl, h.2.symm, h.1.symm⟩
  · cases h

noncomputable def reg53_4 : Array Oper := ((regAt (Try.f53.body.getD .skip) 4).getD #[])
theorem drawn53_4 : drawT reg53_4 = true := by decide +kernel
noncomputable def tab53 : Tab := [(4, ⟨reg53_4, drawn53_4⟩)]
set_option maxRecDepth 100000 in
theorem walk53 (u : Lk) (l0 : List Ru) (h1 : Hd) (hq : lq1 u small l0) : WalkT tab53 262715 Try.f53 (Try.f53.body.getD .skip) [(74, hasS u)] u [.sl .rule l0, .hd h1] (.i .i64 (lk2 u firstM l0 h1)) := by
  intro L hL
  cbv
  refine hL Nat (fun k => k ≤ l0.length ∧ ∀ j (hj : j < k) (hl : j < l0.length), hasR h1 l0[j] = false) (fun k => l0.length - k)
    (fun k => ⟨[(5, .i .i64 (lk1 u (fun (k : Nat) => (k : Int)) k)), (3, .p 3 [] 0), (0, .sl .rule l0)], [(3, .box 34 (.hd h1))]⟩) _ _ _ 0 ?_ ?_ ?_ ?_
  · intro l st hk
    exact hk
  · exact ⟨by simp, fun j hj => by omega⟩
  · cbv
    all_goals (obtain rfl := Lk.eq_std u; try simp only [Lk.std])
    all_goals (repeat' first | exact trivial | rfl | refine ⟨?_, ?_⟩)
  · rintro k ⟨hk, hj⟩
    clear hL
    cbv
    obtain rfl := Lk.eq_std u
    simp only [Lk.std]
    have hq' : l0.length ≤ 4611686018427387904 := hq
    refine ⟨fun hlt => ?_, fun hge => ?_⟩
    · have hlt := nat_lt hlt
      have hat := at_get .rule l0 k hlt
      rw [wrap_succ k (by omega)]
      rw [hat]
      refine ⟨⟨idx_ok hlt, trivial⟩, fun hb => ?_, fun hb => ?_⟩
      · have hb : hasR h1 l0[k] = true := hb
        have e : firstN l0 h1 = k := first_lt hlt hb fun j hj' => hj j hj' (by omega)
        have : decide (k < l0.length) = true := by simpa using hlt
        rw [firstM, e, this]; rfl
      · have hb : hasR h1 l0[k] = false := hb
        refine ⟨k + 1, ⟨by omega, fun j hj' hl => ?_⟩, by omega, by (repeat' first | exact trivial | rfl | refine ⟨?_, ?_⟩)⟩
        by_cases hjk : j = k
        · subst hjk; exact hb
        · exact hj j (by omega) hl
    · have hge := nat_ge hge
      have e : firstN l0 h1 = l0.length := find_none fun j hj' => hj j (by omega) hj'
      have : decide (l0.length < l0.length) = false := by simp
      rw [firstM, e, this]; rfl

theorem plain53 : Plainly Try.prog 53 := ⟨Try.f53, Try.func53, by kernel_rfl, by kernel_rfl⟩
theorem ok53 (u : Lk) : SpecOK Try.prog 53 (firstS u) := fun args q r h hq => by
  obtain ⟨l0, h1, rfl, rfl, rfl⟩ := firstS_spec h
  exact fn_okT (u := u) Try.func53 rfl (fns_cons plain74 (ok74 u) fns_nil) rfl rfl (walk53 u l0 h1 hq)

def clearS (u : Lk) : Spec
  | [.sl .rule l0, .i .i64 n1, .pr (.hd v2) (.hd m2)] => some (lq2 u (fun (l : List Ru) (n : Int) => small l ∧ n ≤ l.length) l0 n1, (.b (lk3 u clearM l0 n1 (v2, m2))))
  | _ => none
theorem clearS_spec {u : Lk} {args : List SV} {q : Prop} {r : SV} (h : clearS u args = some (q, r)) : ∃ l0 n1 v2 m2, args = [.sl .rule l0, .i .i64 n1, .pr (.hd v2) (.hd m2)] ∧ r = (.b (lk3 u clearM l0 n1 (v2, m2))) ∧ q = (lq2 u (fun (l : List Ru) (n : Int) => small l ∧ n ≤ l.length) l0 n1) := by
  unfold clearS at h
  split at h
  · simp only [Option.some.injEq, Prod.mk.injEq] at h
    exact ⟨_, _, _, _, rfl, h.2.symm, h.1.symm⟩
  · cases h

noncomputable def reg54_4 : Array Oper := ((regAt (Try.f54.body.getD .skip) 4).getD #[])
theorem drawn54_4 : drawT reg54_4 = true := by decide +kernel
noncomputable def tab54 : Tab := [(4, ⟨reg54_4, drawn54_4⟩)]
set_option maxRecDepth 100000 in
theorem walk54 (u : Lk) (l0 : List Ru) (n1 : Int) (v2 : Hd) (m2 : Hd) (hq : lq2 u (fun (l : List Ru) (n : Int) => small l ∧ n ≤ l.length) l0 n1) : WalkT tab54 525543 Try.f54 (Try.f54.body.getD .skip) [(108, meetsS u)] u [.sl .rule l0, .i .i64 n1, .pr (.hd v2) (.hd m2)] (.b (lk3 u clearM l0 n1 (v2, m2))) := by
  intro L hL
  cbv
  refine hL Nat (fun k => k ≤ n1.toNat ∧ ∀ j (hj : j < k) (hl : j < l0.length), meetOk (v2, m2) l0[j].2.1 = false) (fun k => n1.toNat - k)
    (fun k => ⟨[(7, .i .i64 (lk1 u (fun (k : Nat) => (k : Int)) k)), (5, .p 5 [] 0), (1, .i .i64 n1), (0, .sl .rule l0)], [(5, .box 36 (.pr (.hd v2) (.hd m2)))]⟩) _ _ _ 0 ?_ ?_ ?_ ?_
  · intro l st hk
    exact hk
  · exact ⟨by simp, fun j hj => by omega⟩
  · cbv
    all_goals (obtain rfl := Lk.eq_std u; try simp only [Lk.std])
    all_goals (repeat' first | exact trivial | rfl | refine ⟨?_, ?_⟩)
  · rintro k ⟨hk, hj⟩
    clear hL
    cbv
    obtain rfl := Lk.eq_std u
    simp only [Lk.std]
    obtain ⟨hq', hn⟩ : l0.length ≤ 4611686018427387904 ∧ n1 ≤ l0.length := hq
    refine ⟨fun hlt => ?_, fun hge => ?_⟩
    · have hlt : (k : Int) < n1 := by simpa using hlt
      have hlt' : k < l0.length := by omega
      have hat := at_get .rule l0 k hlt'
      rw [wrap_succ k (by omega), hat]
      refine ⟨⟨idx_ok hlt', trivial⟩, fun hb => ?_, fun hb => ?_⟩
      · have hb : meetOk (v2, m2) l0[k].2.1 = true := hb
        have : clearM l0 n1 (v2, m2) = false := by
          unfold clearM
          rw [List.all_eq_false]
          exact ⟨l0[k], List.mem_take_iff_getElem.2 ⟨k, by omega, rfl⟩, by rw [hb]; simp⟩
        rw [this]
      · have hb : meetOk (v2, m2) l0[k].2.1 = false := hb
        refine ⟨k + 1, ⟨by omega, fun j hj' hl => ?_⟩, by omega, by (repeat' first | exact trivial | rfl | refine ⟨?_, ?_⟩)⟩
        by_cases hjk : j = k
        · subst hjk; exact hb
        · exact hj j (by omega) hl
    · have hge : ¬ (k : Int) < n1 := by simpa using hge
      have : clearM l0 n1 (v2, m2) = true := by
        unfold clearM
        rw [List.all_eq_true]
        intro r hr
        obtain ⟨j, hj', rfl⟩ := List.mem_take_iff_getElem.1 hr
        rw [hj j (by omega) (by omega)]; rfl
      rw [this]

theorem plain54 : Plainly Try.prog 54 := ⟨Try.f54, Try.func54, by kernel_rfl, by kernel_rfl⟩
theorem ok54 (u : Lk) : SpecOK Try.prog 54 (clearS u) := fun args q r h hq => by
  obtain ⟨l0, n1, v2, m2, rfl, rfl, rfl⟩ := clearS_spec h
  exact fn_okT (u := u) Try.func54 rfl (fns_cons plain108 (ok108 u) fns_nil) rfl rfl (walk54 u l0 n1 v2 m2 hq)

def lookS (u : Lk) : Spec
  | [.sl .rule l0, .hd h1] => some (lq1 u small l0, (.tp (.pr (.i .i64 (lk2 u (fun x0 x1 => (lookR x0 x1).1) l0 h1)) (.pr (.pr (.hd (lk2 u (fun x0 x1 => (lookR x0 x1).2.1.1) l0 h1)) (.hd (lk2 u (fun x0 x1 => (lookR x0 x1).2.1.2) l0 h1))) (.i .i64 (lk2 u (fun x0 x1 => (lookR x0 x1).2.2) l0 h1)))) (.b (lk2 u lookB l0 h1))))
  | _ => none
theorem lookS_spec {u : Lk} {args : List SV} {q : Prop} {r : SV} (h : lookS u args = some (q, r)) : ∃ l0 h1, args = [.sl .rule l0, .hd h1] ∧ r = (.tp (.pr (.i .i64 (lk2 u (fun x0 x1 => (lookR x0 x1).1) l0 h1)) (.pr (.pr (.hd (lk2 u (fun x0 x1 => (lookR x0 x1).2.1.1) l0 h1)) (.hd (lk2 u (fun x0 x1 => (lookR x0 x1).2.1.2) l0 h1))) (.i .i64 (lk2 u (fun x0 x1 => (lookR x0 x1).2.2) l0 h1)))) (.b (lk2 u lookB l0 h1))) ∧ q = (lq1 u small l0) := by
  unfold lookS at h
  split at h
  · simp only [Option.some.injEq, Prod.mk.injEq] at h
    exact ⟨_, _, rfl, h.2.symm, h.1.symm⟩
  · cases h

noncomputable def tab58 : Tab := []
set_option maxRecDepth 100000 in
theorem walk58 (u : Lk) (l0 : List Ru) (h1 : Hd) (hq : lq1 u small l0) : WalkT tab58 135099 Try.f58 (Try.f58.body.getD .skip) [(59, hasS u)] u [.sl .rule l0, .hd h1] (.tp (.pr (.i .i64 (lk2 u (fun x0 x1 => (lookR x0 x1).1) l0 h1)) (.pr (.pr (.hd (lk2 u (fun x0 x1 => (lookR x0 x1).2.1.1) l0 h1)) (.hd (lk2 u (fun x0 x1 => (lookR x0 x1).2.1.2) l0 h1))) (.i .i64 (lk2 u (fun x0 x1 => (lookR x0 x1).2.2) l0 h1)))) (.b (lk2 u lookB l0 h1))) := by
  intro L hL
  cbv
  refine hL Nat (fun k => k ≤ l0.length ∧ ∀ j (hj : j < k) (hl : j < l0.length), hasR h1 l0[j] = false) (fun k => l0.length - k)
    (fun k => ⟨[(10, .i .i64 (lk1 u (fun (k : Nat) => (k : Int)) k)), (9, .i .i64 (lk1 u (fun l : List Ru => (l.length : Int)) l0)), (8, .sl .rule l0), (4, .p 4 [] 0), (3, .p 3 [] 0)], [(4, .box 58 (.pr (.i .i64 0) (.pr (.pr (.hd 0) (.hd 0)) (.i .i64 0)))), (3, .box 34 (.hd h1))]⟩) _ _ _ 0 ?_ ?_ ?_ ?_
  · intro l st hk
    exact hk
  · exact ⟨by simp, fun j hj => by omega⟩
  · cbv
    all_goals (obtain rfl := Lk.eq_std u; try simp only [Lk.std])
    all_goals (repeat' first | exact trivial | rfl | refine ⟨?_, ?_⟩)
  · rintro k ⟨hk, hj⟩
    clear hL
    cbv
    obtain rfl := Lk.eq_std u
    simp only [Lk.std]
    have hq' : l0.length ≤ 4611686018427387904 := hq
    refine ⟨fun hlt => ?_, fun hge => ?_⟩
    · have hlt := nat_lt hlt
      have hat := at_get .rule l0 k hlt
      rw [wrap_succ k (by omega)]
      simp only [hat]
      refine ⟨by (repeat' first | exact trivial | exact idx_ok hlt | refine ⟨?_, ?_⟩), ?_⟩
      refine ⟨fun hb => ?_, fun hb => ?_⟩
      · have hb : hasR h1 l0[k] = true := hb
        have e : firstN l0 h1 = k := first_lt hlt hb fun j hj' => hj j hj' (by omega)
        have h2 : lookB l0 h1 = true := by unfold lookB; rw [e]; simpa using hlt
        have h3 : lookR l0 h1 = l0[k] := by unfold lookR; rw [e, List.getD_eq_getElem?_getD, List.getElem?_eq_getElem hlt]; rfl
        rw [h2, h3]
        (repeat' first | exact trivial | rfl | refine ⟨?_, ?_⟩)
      · have hb : hasR h1 l0[k] = false := hb
        refine ⟨k + 1, ⟨by omega, fun j hj' hl => ?_⟩, by omega, by (repeat' first | exact trivial | rfl | refine ⟨?_, ?_⟩)⟩
        by_cases hjk : j = k
        · subst hjk; exact hb
        · exact hj j (by omega) hl
    · have hge := nat_ge hge
      have e : firstN l0 h1 = l0.length := find_none fun j hj' => hj j (by omega) hj'
      have h2 : lookB l0 h1 = false := by unfold lookB; rw [e]; simp
      have h3 : lookR l0 h1 = (0, (0, 0), 0) := by unfold lookR; rw [e]; simp
      rw [h2, h3]
      (repeat' first | exact trivial | rfl | refine ⟨?_, ?_⟩)

theorem plain58 : Plainly Try.prog 58 := ⟨Try.f58, Try.func58, by kernel_rfl, by kernel_rfl⟩
theorem ok58 (u : Lk) : SpecOK Try.prog 58 (lookS u) := fun args q r h hq => by
  obtain ⟨l0, h1, rfl, rfl, rfl⟩ := lookS_spec h
  exact fn_okT (u := u) Try.func58 rfl (fns_cons plain59 (ok59 u) fns_nil) rfl rfl (walk58 u l0 h1 hq)

def apartS (u : Lk) : Spec
  | [.pr (.hd v0) (.hd m0), .pr (.hd v1) (.hd m1), .hd h2] => some (True, (.pr (.hd (lk3 u (fun x0 x1 x2 => (apartM x0 x1 x2).1) (v0, m0) (v1, m1) h2)) (.hd (lk3 u (fun x0 x1 x2 => (apartM x0 x1 x2).2) (v0, m0) (v1, m1) h2))))
  | _ => none
theorem apartS_spec {u : Lk} {args : List SV} {q : Prop} {r : SV} (h : apartS u args = some (q, r)) : ∃ v0 m0 v1 m1 h2, args = [.pr (.hd v0) (.hd m0), .pr (.hd v1) (.hd m1), .hd h2] ∧ r = (.pr (.hd (lk3 u (fun x0 x1 x2 => (apartM x0 x1 x2).1) (v0, m0) (v1, m1) h2)) (.hd (lk3 u (fun x0 x1 x2 => (apartM x0 x1 x2).2) (v0, m0) (v1, m1) h2))) := by
  unfold apartS at h
  split at h
  · simp only [Option.some.injEq, Prod.mk.injEq] at h
    exact ⟨_, _, _, _, _, rfl, h.2.symm⟩
  · cases h

noncomputable def reg106_5 : Array Oper := ((regAt (Try.f106.body.getD .skip) 5).getD #[])
theorem drawn106_5 : drawT reg106_5 = true := by decide +kernel
noncomputable def reg106_6 : Array Oper := ((regAt (Try.f106.body.getD .skip) 6).getD #[])
theorem drawn106_6 : drawT reg106_6 = true := by decide +kernel
noncomputable def tab106 : Tab := [(5, ⟨reg106_5, drawn106_5⟩), (6, ⟨reg106_6, drawn106_6⟩)]
set_option maxRecDepth 100000 in
theorem walk106 (u : Lk) (v0 : Hd) (m0 : Hd) (v1 : Hd) (m1 : Hd) (h2 : Hd) : WalkT tab106 67112191 Try.f106 (Try.f106.body.getD .skip) [(73, canonS u), (107, bitS u), (63, fixS u)] u [.pr (.hd v0) (.hd m0), .pr (.hd v1) (.hd m1), .hd h2] (.pr (.hd (lk3 u (fun x0 x1 x2 => (apartM x0 x1 x2).1) (v0, m0) (v1, m1) h2)) (.hd (lk3 u (fun x0 x1 x2 => (apartM x0 x1 x2).2) (v0, m0) (v1, m1) h2))) := by
  intro L hL
  cbv
  refine hL Nat (fun k => k ≤ 104 ∧ ∀ j : Nat, j < k → apartP (v1, m1) h2 j = false) (fun k => 104 - k)
    (fun k => ⟨[(10, .i .i64 (lk1 u (fun (k : Nat) => (k : Int)) k)), (6, .p 6 [] 0), (5, .p 5 [] 0), (4, .p 4 [] 0), (3, .p 3 [] 0)], [(6, .box 36 (.pr (.hd 0) (.hd 0))), (5, .box 34 (.hd h2)), (4, .box 36 (.pr (.hd (lk1 u (fun x0 => (canonM x0).1) (v1, m1))) (.hd (lk1 u (fun x0 => (canonM x0).2) (v1, m1))))), (3, .box 36 (.pr (.hd v0) (.hd m0)))]⟩) _ _ _ 0 ?_ ?_ ?_ ?_
  · intro l st hk
    exact hk
  · exact ⟨by simp, fun j hj => by omega⟩
  · cbv
    all_goals (obtain rfl := Lk.eq_std u; try simp only [Lk.std])
    all_goals (repeat' first | exact trivial | rfl | refine ⟨?_, ?_⟩)
  · rintro k ⟨hk, hj⟩
    clear hL
    cbv
    obtain rfl := Lk.eq_std u
    simp only [Lk.std]
    refine ⟨fun hlt => ?_, fun hge => ?_⟩
    · have hlt : (k : Int) < 104 := by simpa using hlt
      rw [wrap_succ k (by omega)]
      refine ⟨by simp, fun hb => ?_, fun hb => ?_⟩
      · have hb : apartP (v1, m1) h2 k = true := by
          rw [← hb, apartP]
          show (bitM (canonM (v1, m1)).2 (k : Nat) && (bitM (canonM (v1, m1)).1 (k : Nat) != bitM h2 (k : Nat))) = bif bitM (canonM (v1, m1)).2 (k : Nat) then _ else _
          cases bitM (canonM (v1, m1)).2 (k : Nat) <;> rfl
        have e : apartN (v1, m1) h2 = k := idx_range (by omega) hb hj
        have h3 : apartM (v0, m0) (v1, m1) h2 = fixC (v0, m0) (k : Nat) (bitM h2 (k : Nat)) := by
          have : decide (k < 104) = true := by simp; omega
          rw [apartM, e, this]; rfl
        rw [h3]
        rfl
      · have hb : apartP (v1, m1) h2 k = false := by
          rw [← hb, apartP]
          show (bitM (canonM (v1, m1)).2 (k : Nat) && (bitM (canonM (v1, m1)).1 (k : Nat) != bitM h2 (k : Nat))) = bif bitM (canonM (v1, m1)).2 (k : Nat) then _ else _
          cases bitM (canonM (v1, m1)).2 (k : Nat) <;> rfl
        refine ⟨k + 1, ⟨by omega, fun j hj' => ?_⟩, by omega, by (repeat' first | exact trivial | rfl | refine ⟨?_, ?_⟩)⟩
        by_cases hjk : j = k
        · rw [hjk]; exact hb
        · exact hj j (by omega)
    · have hge : ¬ (k : Int) < 104 := by simpa using hge
      have e : apartN (v1, m1) h2 = 104 := idx_range_none fun j hj' => hj j (by omega)
      have : apartM (v0, m0) (v1, m1) h2 = (v0, m0) := by rw [apartM, e]; rfl
      rw [this]

theorem plain106 : Plainly Try.prog 106 := ⟨Try.f106, Try.func106, by kernel_rfl, by kernel_rfl⟩
theorem ok106 (u : Lk) : SpecOK Try.prog 106 (apartS u) := fun args q r h hq => by
  obtain ⟨v0, m0, v1, m1, h2, rfl, rfl⟩ := apartS_spec h
  exact fn_okT (u := u) Try.func106 rfl (fns_cons plain73 (ok73 u) (fns_cons plain107 (ok107 u) (fns_cons plain63 (ok63 u) fns_nil))) rfl rfl (walk106 u v0 m0 v1 m1 h2)

end Mx
