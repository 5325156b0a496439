/- Layer 3: Less, Bound, Left in both. Own work. -/
import Derived.Test.YtlnofclfpcmneaaPi
namespace Mx
open Go Go.Proofs
def lessS (u : Lk) : Spec
  | [.hd h0, .hd h1] => some (True, (.b (lk2 u lessM h0 h1)))
  | _ => none
theorem lessS_spec {u : Lk} {args : List SV} {q : Prop} {r : SV} (h : lessS u args = some (q, r)) : ∃ h0 h1, args = [.hd h0, .hd h1] ∧ r = (.b (lk2 u lessM h0 h1)) := by
  unfold lessS at h
  split at h
  · simp only [Option.some.injEq, Prod.mk.injEq] at h
    exact ⟨_, _, rfl, h.2.symm⟩
  · cases h

noncomputable def tab122 : Tab := []
set_option maxRecDepth 100000 in
theorem walk122 (u : Lk) (h0 : Hd) (h1 : Hd) : WalkT tab122 66559 Try.f122 (Try.f122.body.getD .skip) [] u [.hd h0, .hd h1] (.b (lk2 u lessM h0 h1)) := by
  intro L hL
  cbv
  refine hL Nat (fun k => k ≤ 13 ∧ ∀ j, j < k → hbn h0 j = hbn h1 j) (fun k => 13 - k)
      (fun k => ⟨[(8, .i .i64 (lk1 u (fun (k : Nat) => (k : Int)) k)), (7, .hd h0), (3, .p 3 [] 0), (2, .p 2 [] 0)], [(3, .box 34 (.hd h1)), (2, .box 34 (.hd h0))]⟩) _ _ _ 0 ?_ ?_ ?_ ?_
  · intro l st hk
    exact hk
  · exact ⟨by simp, fun j hj => by omega⟩
  · cbv
    all_goals (obtain rfl := Lk.eq_std u; try simp only [Lk.std])
    all_goals (repeat' first | exact trivial | rfl | refine ⟨?_, ?_⟩)
  · rintro k ⟨hk, hj⟩
    clear hL
    cbv
    obtain rfl := Lk.eq_std u
    simp only [Lk.std]
    have hk : k ≤ 13 := hk
    refine ⟨fun hr => ?_, fun hr => ?_⟩
    · have hlt : k < 13 := by have : (k : Int) < 13 := by simpa using hr
                              omega
      clear hr
      have hi : (0 : Int) ≤ Int.ofNat k ∧ Int.ofNat k < 13 := ⟨Int.natCast_nonneg k, by show (k : Int) < 13; omega⟩
      rw [wrap_succ k (by omega)]
      have ha : hb h0 (Int.ofNat k) = (hbn h0 k : Int) := rfl
      have hb' : hb h1 (Int.ofNat k) = (hbn h1 k : Int) := rfl
      rw [ha, hb']
      refine ⟨by (repeat' first | exact trivial | exact hi | refine ⟨?_, ?_⟩), by (repeat' first | exact trivial | exact hi | refine ⟨?_, ?_⟩), fun hb => ?_, fun hb => ?_⟩
      · have hne : hbn h0 k ≠ hbn h1 k := by
          intro e
          rw [e] at hb
          simp at hb
        have e := less_byte hlt hj hne
        refine ⟨by (repeat' first | exact trivial | exact hi | refine ⟨?_, ?_⟩), ?_⟩
        rw [e]
        have : decide (((hbn h0 k : Nat) : Int) < ((hbn h1 k : Nat) : Int)) = decide (hbn h0 k < hbn h1 k) := by
          rw [Bool.eq_iff_iff, decide_eq_true_eq, decide_eq_true_eq]; omega
        rw [this]
      · have he : hbn h0 k = hbn h1 k := by
          have : ((hbn h0 k : Nat) : Int) = (hbn h1 k : Nat) := by simpa using hb
          omega
        refine ⟨k + 1, ⟨by omega, fun j hj' => ?_⟩, by omega, by (repeat' first | exact trivial | rfl | refine ⟨?_, ?_⟩)⟩
        by_cases hjk : j = k
        · rw [hjk]; exact he
        · exact hj j (by omega)
    · have hge : 13 ≤ k := by have : ¬ (k : Int) < 13 := by simpa using hr
                              omega
      have : h0 = h1 := hd_ext fun j hj' => hj j (by omega)
      rw [this, less_self]

theorem plain122 : Plainly Try.prog 122 := ⟨Try.f122, Try.func122, by kernel_rfl, by kernel_rfl⟩
theorem ok122 (u : Lk) : SpecOK Try.prog 122 (lessS u) := fun args q r h hq => by
  obtain ⟨h0, h1, rfl, rfl⟩ := lessS_spec h
  exact fn_okT (u := u) Try.func122 rfl fns_nil rfl rfl (walk122 u h0 h1)

noncomputable def reg123_4 : Array Oper := ((regAt (Try.f123.body.getD .skip) 4).getD #[])
theorem drawn123_4 : drawT reg123_4 = true := by decide +kernel
noncomputable def tab123 : Tab := [(4, ⟨reg123_4, drawn123_4⟩)]
set_option maxRecDepth 100000 in
theorem walk123 (u : Lk) (h0 : Hd) (h1 : Hd) : WalkT tab123 65727 Try.f123 (Try.f123.body.getD .skip) [(111, bitS u)] u [.hd h0, .hd h1] (.b (lk2 u lessM h0 h1)) := by
  intro L hL
  cbv
  refine hL Nat (fun k => k ≤ 104 ∧ ∀ j, j < k → h0.getMsbD j = h1.getMsbD j) (fun k => 104 - k)
      (fun k => ⟨[(5, .i .i64 (lk1 u (fun (k : Nat) => (k : Int)) k)), (3, .p 3 [] 0), (2, .p 2 [] 0)], [(3, .box 34 (.hd h1)), (2, .box 34 (.hd h0))]⟩) _ _ _ 0 ?_ ?_ ?_ ?_
  · intro l st hk
    exact hk
  · exact ⟨by simp, fun j hj => by omega⟩
  · cbv
    all_goals (obtain rfl := Lk.eq_std u; try simp only [Lk.std])
    all_goals (repeat' first | exact trivial | rfl | refine ⟨?_, ?_⟩)
  · rintro k ⟨hk, hj⟩
    clear hL
    cbv
    obtain rfl := Lk.eq_std u
    simp only [Lk.std]
    have hk : k ≤ 104 := hk
    refine ⟨fun hr => ?_, fun hr => ?_⟩
    · have hlt := num_lt hr
      clear hr
      rw [wrap_succ k (by omega)]
      have ha : bitM h0 (Int.ofNat k) = h0.getMsbD k := bit_nat h0 hlt
      have hb' : bitM h1 (Int.ofNat k) = h1.getMsbD k := bit_nat h1 hlt
      rw [ha, hb']
      refine ⟨fun hb => ?_, fun hb => ?_⟩
      · have hne : h0.getMsbD k ≠ h1.getMsbD k := by
          intro e
          rw [e] at hb
          simp at hb
        rw [less_bit hlt hj hne]
      · have he : h0.getMsbD k = h1.getMsbD k := by
          cases e0 : h0.getMsbD k <;> cases e1 : h1.getMsbD k <;> simp_all
        refine ⟨k + 1, ⟨by omega, fun j hj' => ?_⟩, by omega, by (repeat' first | exact trivial | rfl | refine ⟨?_, ?_⟩)⟩
        by_cases hjk : j = k
        · rw [hjk]; exact he
        · exact hj j (by omega)
    · have hge := num_ge hr
      have : h0 = h1 := hd_ext_msb fun j hj' => hj j (by omega)
      rw [this, less_self]

theorem plain123 : Plainly Try.prog 123 := ⟨Try.f123, Try.func123, by kernel_rfl, by kernel_rfl⟩
theorem ok123 (u : Lk) : SpecOK Try.prog 123 (lessS u) := fun args q r h hq => by
  obtain ⟨h0, h1, rfl, rfl⟩ := lessS_spec h
  exact fn_okT (u := u) Try.func123 rfl (fns_cons plain111 (ok111 u) fns_nil) rfl rfl (walk123 u h0 h1)

def boundS (u : Lk) : Spec
  | [.i .i64 n0] => some (True, (.i .i64 (lk1 u boundM n0)))
  | _ => none
theorem boundS_spec {u : Lk} {args : List SV} {q : Prop} {r : SV} (h : boundS u args = some (q, r)) : ∃ n0, args = [.i .i64 n0] ∧ r = (.i .i64 (lk1 u boundM n0)) := by
  unfold boundS at h
  split at h
  · simp only [Option.some.injEq, Prod.mk.injEq] at h
    exact ⟨_, rfl, h.2.symm⟩
  · cases h

noncomputable def tab119 : Tab := []
set_option maxRecDepth 100000 in
theorem walk119 (u : Lk) (n0 : Int) : WalkT tab119 85 Try.f119 (Try.f119.body.getD .skip) [] u [.i .i64 n0] (.i .i64 (lk1 u boundM n0)) := by
  intro L hL
  clear hL
  cbv
  obtain rfl := Lk.eq_std u
  simp only [Lk.std]
  refine ⟨fun h => ?_, fun h => ⟨fun h2 => ?_, fun h2 => ?_⟩⟩
  · unfold boundM; rw [h]; rfl
  · unfold boundM; rw [h, h2]; rfl
  · unfold boundM; rw [h, h2]; rfl

theorem plain119 : Plainly Try.prog 119 := ⟨Try.f119, Try.func119, by kernel_rfl, by kernel_rfl⟩
theorem ok119 (u : Lk) : SpecOK Try.prog 119 (boundS u) := fun args q r h hq => by
  obtain ⟨n0, rfl, rfl⟩ := boundS_spec h
  exact fn_okT (u := u) Try.func119 rfl fns_nil rfl rfl (walk119 u n0)

theorem bound_go (m : Int) : (bif decide ((0 : Int) < (bif decide ((1000 : Int) < m) then 1000 else m)) then (bif decide ((1000 : Int) < m) then 1000 else m) else 0) = boundM m := by
  unfold boundM
  by_cases h : m < 0
  · have h1 : ¬ 1000 < m := by omega
    have h2 : ¬ 0 < m := by omega
    simp [h, h1, h2]
  · by_cases h1 : 1000 < m
    · simp [h, h1]
    · by_cases h2 : 0 < m
      · simp [h, h1, h2]
      · have : m = 0 := by omega
        simp [this]

def leftS (u : Lk) : Spec
  | [.pr (.hd v0) (.hd m0), .sl .cube l1, .i .i64 n2] => some (lq1 u tiny l1, (.tp (.sl .cube (lk3 u leftM (v0, m0) l1 n2)) (.i .i64 (lk3 u leftE (v0, m0) l1 n2))))
  | _ => none
theorem leftS_spec {u : Lk} {args : List SV} {q : Prop} {r : SV} (h : leftS u args = some (q, r)) : ∃ v0 m0 l1 n2, args = [.pr (.hd v0) (.hd m0), .sl .cube l1, .i .i64 n2] ∧ r = (.tp (.sl .cube (lk3 u leftM (v0, m0) l1 n2)) (.i .i64 (lk3 u leftE (v0, m0) l1 n2))) ∧ q = (lq1 u tiny l1) := by
  unfold leftS at h
  split at h
  · simp only [Option.some.injEq, Prod.mk.injEq] at h
    exact ⟨_, _, _, _, rfl, h.2.symm, h.1.symm⟩
  · cases h

noncomputable def tab89 : Tab := []
set_option maxRecDepth 100000 in
theorem walk89 (u : Lk) (v0 : Hd) (m0 : Hd) (l1 : List Cu) (n2 : Int) (hq : lq1 u tiny l1) : WalkT tab89 4402136231375 Try.f89 (Try.f89.body.getD .skip) [(73, canonS u), (66, minusS u)] u [.pr (.hd v0) (.hd m0), .sl .cube l1, .i .i64 n2] (.tp (.sl .cube (lk3 u leftM (v0, m0) l1 n2)) (.i .i64 (lk3 u leftE (v0, m0) l1 n2))) := by
  intro L hL
  cbv
  have hbr := bound_range n2
  have hq' : l1.length ≤ 1000000 := by obtain rfl := Lk.eq_std u; exact hq
  refine (iff_of_eq (u.e3 _ _ _ _)).mpr ⟨fun hr => ?_, fun hr => ?_⟩
  · obtain rfl := Lk.eq_std u
    simp only [Lk.std] at hr ⊢
    rw [bound_go, decide_eq_true_eq] at hr
    obtain ⟨e1, e2⟩ := left_no (left_zero (c := (v0, m0)) (l := l1) (m := n2) (by omega))
    rw [e1, e2]
    (repeat' first | exact trivial | rfl | refine ⟨?_, ?_⟩)
  have h1 : 1 ≤ boundM n2 := by
    obtain rfl := Lk.eq_std u
    simp only [Lk.std] at hr
    rw [bound_go, decide_eq_false_iff_not] at hr
    omega
  clear hr
  refine hL Nat (fun k => k ≤ l1.length ∧ ∀ i, i < k → ((leftK (v0, m0) l1 (i + 1)).length : Int) ≤ boundM n2) (fun k => l1.length - k)
      (fun k => ⟨[(24, .i .i64 (lk1 u (fun (k : Nat) => (k : Int)) k)), (23, .i .i64 (lk1 u (fun l : List Cu => (l.length : Int)) l1)), (22, .sl .cube l1), (8, .sl .cube (lk3 u (fun c l (k : Nat) => leftK c l k) (v0, m0) l1 k)), (2, .i .i64 (lk2 u (fun (x y : Int) => bif decide (x < y) then y else x) 0 (lk2 u (fun (x y : Int) => bif decide (y < x) then y else x) n2 1000)))], []⟩) _ _ _ 0 ?_ ?_ ?_ ?_
  · intro l st hk
    exact hk
  · exact ⟨by omega, fun i hi => by omega⟩
  · cbv
    all_goals (obtain rfl := Lk.eq_std u; try simp only [Lk.std])
    all_goals (repeat' first | exact trivial | rfl | refine ⟨?_, ?_⟩)
  · rintro k ⟨hk, hall⟩
    cbv
    have hk : k ≤ l1.length := hk
    have hq' : l1.length ≤ 1000000 := hq'
    have hbr : 0 ≤ boundM n2 ∧ boundM n2 ≤ 1000 := hbr
    refine (iff_of_eq (u.e3 _ _ _ _)).mpr ⟨fun hr => ?_, fun hr => ?_⟩
    · have hkl : k < l1.length := by obtain rfl := Lk.eq_std u; exact nat_lt hr
      clear hr
      have hlk : ((leftK (v0, m0) l1 k).length : Int) ≤ 1104 := by
        match k, hall with
        | 0, _ => show ((1 : Nat) : Int) ≤ 1104; omega
        | k + 1, hall =>
          have : ((leftK (v0, m0) l1 (k + 1)).length : Int) ≤ boundM n2 := hall k (by omega)
          omega
      refine ⟨by obtain rfl := Lk.eq_std u; simp only [Lk.std]; (repeat' first | exact trivial | exact idx_ok hkl | refine ⟨?_, ?_⟩), ?_⟩
      refine hL Nat (fun j => j ≤ (leftK (v0, m0) l1 k).length ∧ ((partK (v0, m0) l1 k j).length : Int) ≤ boundM n2) (fun j => (leftK (v0, m0) l1 k).length - j)
          (fun j => ⟨[(30, .i .i64 (lk1 u (fun (k : Nat) => (k : Int)) j)), (29, .i .i64 (lk3 u (fun c l (k : Nat) => ((leftK c l k).length : Int)) (v0, m0) l1 k)), (28, .sl .cube (lk3 u (fun c l (k : Nat) => leftK c l k) (v0, m0) l1 k)), (11, .ow 11 (.sl .cube (lk3 u (fun c l (q : Nat × Nat) => partK c l q.1 q.2) (v0, m0) l1 (k, j)))), (10, .p 10 [] 0), (24, .i .i64 (lk1 u (fun (k : Nat) => (k : Int)) k)), (23, .i .i64 (lk1 u (fun l : List Cu => (l.length : Int)) l1)), (22, .sl .cube l1), (2, .i .i64 (lk2 u (fun (x y : Int) => bif decide (x < y) then y else x) 0 (lk2 u (fun (x y : Int) => bif decide (y < x) then y else x) n2 1000)))], [(11, .own 36 .cube), (10, .box 36 (.pr (.hd (lk2 u (fun (l : List Cu) (k : Nat) => (atL .cube l (k : Nat)).1) l1 k)) (.hd (lk2 u (fun (l : List Cu) (k : Nat) => (atL .cube l (k : Nat)).2) l1 k))))]⟩) _ _ _ 0 ?_ ?_ ?_ ?_
      · intro l st hk
        exact hk
      · exact ⟨Nat.zero_le _, by rw [part_zero]; show ((0 : Nat) : Int) ≤ _; omega⟩
      · cbv
        all_goals (obtain rfl := Lk.eq_std u; try simp only [Lk.std])
        all_goals (repeat' first | exact trivial | rfl | refine ⟨?_, ?_⟩)
      · rintro j ⟨hj, hB⟩
        clear hL
        cbv
        obtain rfl := Lk.eq_std u
        simp only [Lk.std]
        have hj : j ≤ (leftK (v0, m0) l1 k).length := hj
        have hB : ((partK (v0, m0) l1 k j).length : Int) ≤ boundM n2 := hB
        have hlk : ((leftK (v0, m0) l1 k).length : Int) ≤ 1104 := hlk
        have hkl : k < l1.length := hkl
        have hbr : 0 ≤ boundM n2 ∧ boundM n2 ≤ 1000 := hbr
        refine ⟨fun hr => ?_, fun hr => ?_⟩
        · have hlt : j < (leftK (v0, m0) l1 k).length := nat_lt hr
          clear hr
          have hat : atL .cube (leftK (v0, m0) l1 k) (Int.ofNat j) = (leftK (v0, m0) l1 k)[j] := at_get .cube _ j hlt
          have hml : (minusM (leftK (v0, m0) l1 k)[j] (atL .cube l1 (k : Nat))).length ≤ 104 := minusM_len _ _
          have hps : partK (v0, m0) l1 k (j + 1) = partK (v0, m0) l1 k j ++ minusM (leftK (v0, m0) l1 k)[j] (atL .cube l1 (k : Nat)) := part_succ (v0, m0) l1 k j hlt
          have hpl : (partK (v0, m0) l1 k (j + 1)).length = (partK (v0, m0) l1 k j).length + (minusM (leftK (v0, m0) l1 k)[j] (atL .cube l1 (k : Nat))).length := by rw [hps, List.length_append]
          have hap : (partK (v0, m0) l1 k j).append (minusM ((atL .cube (leftK (v0, m0) l1 k) (Int.ofNat j)).1, (atL .cube (leftK (v0, m0) l1 k) (Int.ofNat j)).2) ((atL .cube l1 (k : Nat)).1, (atL .cube l1 (k : Nat)).2)) = partK (v0, m0) l1 k (j + 1) := by
            rw [hps, hat]; rfl
          rw [wrap_succ j (by omega), bound_go, hap]
          have hln : lenS (SV.sl E.cube (partK (v0, m0) l1 k (j + 1))) ≤ 1099511627776 := by
            show ((partK (v0, m0) l1 k (j + 1)).length : Int) ≤ _
            omega
          refine ⟨by (repeat' first | exact trivial | exact idx_ok hlt | refine ⟨?_, ?_⟩), ⟨hln, trivial⟩, fun hb => ?_, fun hb => ?_⟩
          · have hb : boundM n2 < ((partK (v0, m0) l1 k (j + 1)).length : Int) := by simpa using hb
            obtain ⟨e1, e2⟩ := left_no (left_over (m := n2) hkl hb)
            rw [e1, e2]
            (repeat' first | exact trivial | rfl | refine ⟨?_, ?_⟩)
          · have hb : ¬ boundM n2 < ((partK (v0, m0) l1 k (j + 1)).length : Int) := by simpa using hb
            refine ⟨j + 1, ⟨by omega, by show ((partK (v0, m0) l1 k (j + 1)).length : Int) ≤ boundM n2; omega⟩, by omega, ?_⟩
            simp only [lk1, lk2, lk3]
            (repeat' first | exact trivial | rfl | exact congrArg (SV.i IntKind.i64) (bound_go n2).symm | refine ⟨?_, ?_⟩)
        · have hge : (leftK (v0, m0) l1 k).length ≤ j := nat_ge hr
          clear hr
          obtain rfl : j = (leftK (v0, m0) l1 k).length := by omega
          rw [part_all] at hB
          have hpa : partK (v0, m0) l1 k (leftK (v0, m0) l1 k).length = leftK (v0, m0) l1 (k + 1) := part_all _ _ _
          rw [wrap_succ k (by omega), hpa]
          refine ⟨k + 1, ⟨by omega, fun i hi => ?_⟩, by omega, by (repeat' first | exact trivial | rfl | refine ⟨?_, ?_⟩)⟩
          by_cases hik : i = k
          · rw [hik]; exact hB
          · exact hall i (by omega)
    · have hge : l1.length ≤ k := by obtain rfl := Lk.eq_std u; exact nat_ge hr
      clear hr
      obtain rfl := Lk.eq_std u
      simp only [Lk.std]
      obtain rfl : k = l1.length := by omega
      obtain ⟨e1, e2⟩ := left_yes (left_ok (c := (v0, m0)) (l := l1) (m := n2) h1 hall)
      rw [e1, e2]
      (repeat' first | exact trivial | rfl | refine ⟨?_, ?_⟩)

theorem plain89 : Plainly Try.prog 89 := ⟨Try.f89, Try.func89, by kernel_rfl, by kernel_rfl⟩
theorem ok89 (u : Lk) : SpecOK Try.prog 89 (leftS u) := fun args q r h hq => by
  obtain ⟨v0, m0, l1, n2, rfl, rfl, rfl⟩ := leftS_spec h
  exact fn_okT (u := u) Try.func89 rfl (fns_cons plain73 (ok73 u) (fns_cons plain66 (ok66 u) fns_nil)) rfl rfl (walk89 u v0 m0 l1 n2 hq)

end Mx
