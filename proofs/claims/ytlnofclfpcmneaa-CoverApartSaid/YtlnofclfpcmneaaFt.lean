/- Layer 3: Covers, Outside, Has, Apart. Own work. -/
import Derived.Test.YtlnofclfpcmneaaPj
namespace Mx
open Go Go.Proofs
def coversS (u : Lk) : Spec
  | [.sl .cube l0, .pr (.hd v1) (.hd m1), .i .i64 n2] => some (lq1 u tiny l0, (.tp (.b (lk3 u coversM l0 (v1, m1) n2)) (.i .i64 (lk3 u coversE l0 (v1, m1) n2))))
  | _ => none
theorem coversS_spec {u : Lk} {args : List SV} {q : Prop} {r : SV} (h : coversS u args = some (q, r)) : ∃ l0 v1 m1 n2, args = [.sl .cube l0, .pr (.hd v1) (.hd m1), .i .i64 n2] ∧ r = (.tp (.b (lk3 u coversM l0 (v1, m1) n2)) (.i .i64 (lk3 u coversE l0 (v1, m1) n2))) ∧ q = (lq1 u tiny l0) := by
  unfold coversS at h
  split at h
  · simp only [Option.some.injEq, Prod.mk.injEq] at h
    exact ⟨_, _, _, _, rfl, h.2.symm, h.1.symm⟩
  · cases h

noncomputable def tab93 : Tab := []
set_option maxRecDepth 100000 in
theorem walk93 (u : Lk) (l0 : List Cu) (v1 : Hd) (m1 : Hd) (n2 : Int) (hq : lq1 u tiny l0) : WalkT tab93 983 Try.f93 (Try.f93.body.getD .skip) [(89, leftS u)] u [.sl .cube l0, .pr (.hd v1) (.hd m1), .i .i64 n2] (.tp (.b (lk3 u coversM l0 (v1, m1) n2)) (.i .i64 (lk3 u coversE l0 (v1, m1) n2))) := by
  intro L hL
  clear hL
  cbv
  obtain rfl := Lk.eq_std u
  simp only [Lk.std]
  have hq : tiny l0 := hq
  have e : leftE (v1, m1) l0 n2 = bif leftOk (v1, m1) l0 n2 then 0 else 4 := rfl
  unfold coversM coversE
  cases h : leftOk (v1, m1) l0 n2
  · have e2 := leftM_no h
    simp [e, h, e2, hq]
  · simp [e, h, hq]

theorem plain93 : Plainly Try.prog 93 := ⟨Try.f93, Try.func93, by kernel_rfl, by kernel_rfl⟩
theorem ok93 (u : Lk) : SpecOK Try.prog 93 (coversS u) := fun args q r h hq => by
  obtain ⟨l0, v1, m1, n2, rfl, rfl, rfl⟩ := coversS_spec h
  exact fn_okT (u := u) Try.func93 rfl (fns_cons plain89 (ok89 u) fns_nil) rfl rfl (walk93 u l0 v1 m1 n2 hq)

noncomputable def tab94 : Tab := []
set_option maxRecDepth 100000 in
theorem walk94 (u : Lk) (l0 : List Cu) (v1 : Hd) (m1 : Hd) (n2 : Int) (hq : lq1 u tiny l0) : WalkT tab94 263127 Try.f94 (Try.f94.body.getD .skip) [(90, leftS u)] u [.sl .cube l0, .pr (.hd v1) (.hd m1), .i .i64 n2] (.tp (.b (lk3 u coversM l0 (v1, m1) n2)) (.i .i64 (lk3 u coversE l0 (v1, m1) n2))) := by
  intro L hL
  clear hL
  cbv
  obtain rfl := Lk.eq_std u
  simp only [Lk.std]
  have hq : tiny l0 := hq
  have e : leftE (v1, m1) l0 n2 = bif leftOk (v1, m1) l0 n2 then 0 else 4 := rfl
  unfold coversM coversE
  cases h : leftOk (v1, m1) l0 n2
  · have e2 := leftM_no h
    simp [e, h, e2, hq]
  · simp [e, h, hq]

theorem plain94 : Plainly Try.prog 94 := ⟨Try.f94, Try.func94, by kernel_rfl, by kernel_rfl⟩
theorem ok94 (u : Lk) : SpecOK Try.prog 94 (coversS u) := fun args q r h hq => by
  obtain ⟨l0, v1, m1, n2, rfl, rfl, rfl⟩ := coversS_spec h
  exact fn_okT (u := u) Try.func94 rfl (fns_cons plain90 (ok90 u) fns_nil) rfl rfl (walk94 u l0 v1 m1 n2 hq)

def clhasS (u : Lk) : Spec
  | [.pr (.hd v0) (.hd m0), .rp (.hd h1)] => some (True, (.b (lk2 u (fun (c : Cu) h => hasC h c) (v0, m0) h1)))
  | _ => none
theorem clhasS_spec {u : Lk} {args : List SV} {q : Prop} {r : SV} (h : clhasS u args = some (q, r)) : ∃ v0 m0 h1, args = [.pr (.hd v0) (.hd m0), .rp (.hd h1)] ∧ r = (.b (lk2 u (fun (c : Cu) h => hasC h c) (v0, m0) h1)) := by
  unfold clhasS at h
  split at h
  · simp only [Option.some.injEq, Prod.mk.injEq] at h
    exact ⟨_, _, _, rfl, h.2.symm⟩
  · cases h

noncomputable def tab121 : Tab := []
set_option maxRecDepth 100000 in
theorem walk121 (u : Lk) (v0 : Hd) (m0 : Hd) (h1 : Hd) : WalkT tab121 15 Try.f121 (Try.f121.body.getD .skip) [(59, hasS u)] u [.pr (.hd v0) (.hd m0), .rp (.hd h1)] (.b (lk2 u (fun (c : Cu) h => hasC h c) (v0, m0) h1)) := by
  intro L hL
  clear hL
  cbv
  obtain rfl := Lk.eq_std u
  rfl

theorem plain121 : Plainly Try.prog 121 := ⟨Try.f121, Try.func121, by kernel_rfl, by kernel_rfl⟩
theorem ok121 (u : Lk) : SpecOK Try.prog 121 (clhasS u) := fun args q r h hq => by
  obtain ⟨v0, m0, h1, rfl, rfl⟩ := clhasS_spec h
  exact fn_okT (u := u) Try.func121 rfl (fns_cons plain59 (ok59 u) fns_nil) rfl rfl (walk121 u v0 m0 h1)

def idxS (u : Lk) : Spec
  | [.sl .cube l0, .cl 121 (.hd h1)] => some (lq1 u small l0, (.i .i64 (lk2 u idxM l0 h1)))
  | _ => none
theorem idxS_spec {u : Lk} {args : List SV} {q : Prop} {r : SV} (h : idxS u args = some (q, r)) : ∃ l0 h1, args = [.sl .cube l0, .cl 121 (.hd h1)] ∧ r = (.i .i64 (lk2 u idxM l0 h1)) ∧ q = (lq1 u small l0) := by
  unfold idxS at h
  split at h
  · simp only [Option.some.injEq, Prod.mk.injEq] at h
    exact ⟨_, _, rfl, h.2.symm, h.1.symm⟩
  · cases h

noncomputable def tab128 : Tab := []
set_option maxRecDepth 100000 in
theorem walk128 (u : Lk) (l0 : List Cu) (h1 : Hd) (hq : lq1 u small l0) : WalkT tab128 66483 Try.f128 (Try.f128.body.getD .skip) [(121, clhasS u)] u [.sl .cube l0, .cl 121 (.hd h1)] (.i .i64 (lk2 u idxM l0 h1)) := by
  intro L hL
  cbv
  refine hL Nat (fun k => k ≤ l0.length ∧ ∀ j (hj : j < k) (hl : j < l0.length), hasC h1 l0[j] = false) (fun k => l0.length - k)
      (fun k => ⟨[(8, .i .i64 (lk1 u (fun (k : Nat) => (k : Int)) k)), (7, .i .i64 (lk1 u (fun l : List Cu => (l.length : Int)) l0)), (1, .cl 121 (.hd h1)), (0, .sl .cube l0)], []⟩) _ _ _ 0 ?_ ?_ ?_ ?_
  · intro l st hk
    exact hk
  · exact ⟨by omega, fun j hj => by omega⟩
  · cbv
    all_goals (obtain rfl := Lk.eq_std u; try simp only [Lk.std])
    all_goals (repeat' first | exact trivial | rfl | refine ⟨?_, ?_⟩)
  · rintro k ⟨hk, hj⟩
    clear hL
    cbv
    obtain rfl := Lk.eq_std u
    simp only [Lk.std]
    have hq' : l0.length ≤ 4611686018427387904 := hq
    refine ⟨fun hr => ?_, fun hr => ?_⟩
    · have hlt : k < l0.length := nat_lt hr
      clear hr
      have hat : atL .cube l0 (Int.ofNat k) = l0[k] := at_get .cube l0 k hlt
      rw [wrap_succ k (by omega)]
      simp only [hat]
      refine ⟨by (repeat' first | exact trivial | exact idx_ok hlt | rfl | refine ⟨?_, ?_⟩), fun hb => ?_, fun hb => ?_⟩
      · have hb : hasC h1 l0[k] = true := hb
        have e : idxN l0 h1 = k := idx_some hlt hb fun j hj' => hj j hj' (by omega)
        have : idxM l0 h1 = (k : Int) := by
          unfold idxM
          rw [e]
          have : decide (k < l0.length) = true := by simpa using hlt
          rw [this]; rfl
        rw [this]; rfl
      · have hb : hasC h1 l0[k] = false := hb
        refine ⟨k + 1, ⟨by omega, fun j hj' hl => ?_⟩, by omega, by (repeat' first | exact trivial | rfl | refine ⟨?_, ?_⟩)⟩
        by_cases hjk : j = k
        · subst hjk; exact hb
        · exact hj j (by omega) hl
    · have hge : l0.length ≤ k := nat_ge hr
      have e : idxN l0 h1 = l0.length := idx_none fun j hj' => hj j (by omega) hj'
      have : idxM l0 h1 = -1 := by
        unfold idxM
        rw [e]
        have : decide (l0.length < l0.length) = false := by simp
        rw [this]; rfl
      rw [this]

theorem plain128 : Plainly Try.prog 128 := ⟨Try.f128, Try.func128, by kernel_rfl, by kernel_rfl⟩
theorem ok128 (u : Lk) : SpecOK Try.prog 128 (idxS u) := fun args q r h hq => by
  obtain ⟨l0, h1, rfl, rfl, rfl⟩ := idxS_spec h
  exact fn_okT (u := u) Try.func128 rfl (fns_cons plain121 (ok121 u) fns_nil) rfl rfl (walk128 u l0 h1 hq)

def containsS (u : Lk) : Spec
  | [.sl .cube l0, .cl 121 (.hd h1)] => some (lq1 u small l0, (.b (lk2 u hasL l0 h1)))
  | _ => none
theorem containsS_spec {u : Lk} {args : List SV} {q : Prop} {r : SV} (h : containsS u args = some (q, r)) : ∃ l0 h1, args = [.sl .cube l0, .cl 121 (.hd h1)] ∧ r = (.b (lk2 u hasL l0 h1)) ∧ q = (lq1 u small l0) := by
  unfold containsS at h
  split at h
  · simp only [Option.some.injEq, Prod.mk.injEq] at h
    exact ⟨_, _, rfl, h.2.symm, h.1.symm⟩
  · cases h

noncomputable def tab120 : Tab := []
set_option maxRecDepth 100000 in
theorem walk120 (u : Lk) (l0 : List Cu) (h1 : Hd) (hq : lq1 u small l0) : WalkT tab120 19 Try.f120 (Try.f120.body.getD .skip) [(128, idxS u)] u [.sl .cube l0, .cl 121 (.hd h1)] (.b (lk2 u hasL l0 h1)) := by
  intro L hL
  clear hL
  cbv
  obtain rfl := Lk.eq_std u
  simp only [Lk.std]
  have e := hasL_idx l0 h1
  exact ⟨by (repeat' first | exact trivial | exact hq | refine ⟨?_, ?_⟩), congrArg SV.b e⟩

theorem plain120 : Plainly Try.prog 120 := ⟨Try.f120, Try.func120, by kernel_rfl, by kernel_rfl⟩
theorem ok120 (u : Lk) : SpecOK Try.prog 120 (containsS u) := fun args q r h hq => by
  obtain ⟨l0, h1, rfl, rfl, rfl⟩ := containsS_spec h
  exact fn_okT (u := u) Try.func120 rfl (fns_cons plain128 (ok128 u) fns_nil) rfl rfl (walk120 u l0 h1 hq)

def haslS (u : Lk) : Spec
  | [.sl .cube l0, .hd h1] => some (lq1 u small l0, (.b (lk2 u hasL l0 h1)))
  | _ => none
theorem haslS_spec {u : Lk} {args : List SV} {q : Prop} {r : SV} (h : haslS u args = some (q, r)) : ∃ l0 h1, args = [.sl .cube l0, .hd h1] ∧ r = (.b (lk2 u hasL l0 h1)) ∧ q = (lq1 u small l0) := by
  unfold haslS at h
  split at h
  · simp only [Option.some.injEq, Prod.mk.injEq] at h
    exact ⟨_, _, rfl, h.2.symm, h.1.symm⟩
  · cases h

noncomputable def tab92 : Tab := []
set_option maxRecDepth 100000 in
theorem walk92 (u : Lk) (l0 : List Cu) (h1 : Hd) (hq : lq1 u small l0) : WalkT tab92 27 Try.f92 (Try.f92.body.getD .skip) [(120, containsS u)] u [.sl .cube l0, .hd h1] (.b (lk2 u hasL l0 h1)) := by
  intro L hL
  clear hL
  cbv
  obtain rfl := Lk.eq_std u
  simp only [Lk.std]
  exact ⟨⟨hq, trivial⟩, trivial⟩

theorem plain92 : Plainly Try.prog 92 := ⟨Try.f92, Try.func92, by kernel_rfl, by kernel_rfl⟩
theorem ok92 (u : Lk) : SpecOK Try.prog 92 (haslS u) := fun args q r h hq => by
  obtain ⟨l0, h1, rfl, rfl, rfl⟩ := haslS_spec h
  exact fn_okT (u := u) Try.func92 rfl (fns_cons plain120 (ok120 u) fns_nil) rfl rfl (walk92 u l0 h1 hq)

noncomputable def reg97_4 : Array Oper := ((regAt (Try.f97.body.getD .skip) 4).getD #[])
theorem drawn97_4 : drawT reg97_4 = true := by decide +kernel
noncomputable def tab97 : Tab := [(4, ⟨reg97_4, drawn97_4⟩)]
set_option maxRecDepth 100000 in
theorem walk97 (u : Lk) (l0 : List Cu) (h1 : Hd) (hq : lq1 u small l0) : WalkT tab97 131643 Try.f97 (Try.f97.body.getD .skip) [(74, hasS u)] u [.sl .cube l0, .hd h1] (.b (lk2 u hasL l0 h1)) := by
  intro L hL
  cbv
  refine hL Nat (fun k => k ≤ l0.length ∧ ∀ j (hj : j < k) (hl : j < l0.length), hasC h1 l0[j] = false) (fun k => l0.length - k)
      (fun k => ⟨[(5, .i .i64 (lk1 u (fun (k : Nat) => (k : Int)) k)), (3, .p 3 [] 0), (0, .sl .cube l0)], [(3, .box 34 (.hd h1))]⟩) _ _ _ 0 ?_ ?_ ?_ ?_
  · intro l st hk
    exact hk
  · exact ⟨by omega, fun j hj => by omega⟩
  · cbv
    all_goals (obtain rfl := Lk.eq_std u; try simp only [Lk.std])
    all_goals (repeat' first | exact trivial | rfl | refine ⟨?_, ?_⟩)
  · rintro k ⟨hk, hj⟩
    clear hL
    cbv
    obtain rfl := Lk.eq_std u
    simp only [Lk.std]
    have hq' : l0.length ≤ 4611686018427387904 := hq
    refine ⟨fun hr => ?_, fun hr => ?_⟩
    · have hlt : k < l0.length := nat_lt hr
      clear hr
      have hat : atL .cube l0 (Int.ofNat k) = l0[k] := at_get .cube l0 k hlt
      rw [wrap_succ k (by omega)]
      simp only [hat]
      refine ⟨by (repeat' first | exact trivial | exact idx_ok hlt | rfl | refine ⟨?_, ?_⟩), fun hb => ?_, fun hb => ?_⟩
      · have hb : hasC h1 l0[k] = true := hb
        rw [hasL_yes hlt hb]
      · have hb : hasC h1 l0[k] = false := hb
        refine ⟨k + 1, ⟨by omega, fun j hj' hl => ?_⟩, by omega, by (repeat' first | exact trivial | rfl | refine ⟨?_, ?_⟩)⟩
        by_cases hjk : j = k
        · subst hjk; exact hb
        · exact hj j (by omega) hl
    · have hge : l0.length ≤ k := nat_ge hr
      rw [hasL_no fun j hj' => hj j (by omega) hj']

theorem plain97 : Plainly Try.prog 97 := ⟨Try.f97, Try.func97, by kernel_rfl, by kernel_rfl⟩
theorem ok97 (u : Lk) : SpecOK Try.prog 97 (haslS u) := fun args q r h hq => by
  obtain ⟨l0, h1, rfl, rfl, rfl⟩ := haslS_spec h
  exact fn_okT (u := u) Try.func97 rfl (fns_cons plain74 (ok74 u) fns_nil) rfl rfl (walk97 u l0 h1 hq)

def apartlS (u : Lk) : Spec
  | [.sl .cube l0] => some (lq1 u small l0, (.b (lk1 u apartL l0)))
  | _ => none
theorem apartlS_spec {u : Lk} {args : List SV} {q : Prop} {r : SV} (h : apartlS u args = some (q, r)) : ∃ l0, args = [.sl .cube l0] ∧ r = (.b (lk1 u apartL l0)) ∧ q = (lq1 u small l0) := by
  unfold apartlS at h
  split at h
  · simp only [Option.some.injEq, Prod.mk.injEq] at h
    exact ⟨_, rfl, h.2.symm, h.1.symm⟩
  · cases h

noncomputable def tab91 : Tab := []
set_option maxRecDepth 100000 in
theorem walk91 (u : Lk) (l0 : List Cu) (hq : lq1 u small l0) : WalkT tab91 1077682013 Try.f91 (Try.f91.body.getD .skip) [(61, meetS u)] u [.sl .cube l0] (.b (lk1 u apartL l0)) := by
  intro L hL
  cbv
  have hq' : l0.length ≤ 4611686018427387904 := by obtain rfl := Lk.eq_std u; exact hq
  refine hL Nat (fun k => k ≤ l0.length ∧ ∀ i p, i < k → p < i → meetOk (atL .cube l0 (i : Nat)) (atL .cube l0 (p : Nat)) = false) (fun k => l0.length - k)
      (fun k => ⟨[(11, .i .i64 (lk1 u (fun (k : Nat) => (k : Int)) k)), (10, .i .i64 (lk1 u (fun l : List Cu => (l.length : Int)) l0)), (9, .sl .cube l0), (0, .sl .cube l0)], []⟩) _ _ _ 0 ?_ ?_ ?_ ?_
  · intro l st hk
    exact hk
  · exact ⟨by omega, fun i p hi => by omega⟩
  · cbv
    all_goals (obtain rfl := Lk.eq_std u; try simp only [Lk.std])
    all_goals (repeat' first | exact trivial | rfl | refine ⟨?_, ?_⟩)
  · rintro k ⟨hk, hall⟩
    cbv
    have hk : k ≤ l0.length := hk
    have hq' : l0.length ≤ 4611686018427387904 := hq'
    refine (iff_of_eq (u.e3 _ _ _ _)).mpr ⟨fun hr => ?_, fun hr => ?_⟩
    · have hkl : k < l0.length := by obtain rfl := Lk.eq_std u; exact nat_lt hr
      clear hr
      refine ⟨by obtain rfl := Lk.eq_std u; simp only [Lk.std]; (repeat' first | exact trivial | exact idx_ok hkl | refine ⟨?_, ?_⟩), by obtain rfl := Lk.eq_std u; exact ⟨⟨⟨Int.le_refl _, Int.natCast_nonneg k, by show (k : Int) ≤ l0.length; omega⟩, trivial⟩, trivial⟩, ?_⟩
      refine hL Nat (fun j => j ≤ k ∧ ∀ p, p < j → meetOk (atL .cube l0 (k : Nat)) (atL .cube l0 (p : Nat)) = false) (fun j => k - j)
          (fun j => ⟨[(20, .i .i64 (lk1 u (fun (k : Nat) => (k : Int)) j)), (19, .i .i64 (lk2 u (fun (l : List Cu) (n : Nat) => (((l.take n).drop 0).length : Int)) l0 k)), (18, .sl .cube (lk2 u (fun (l : List Cu) (n : Nat) => (l.take n).drop 0) l0 k)), (4, .p 4 [] 0), (11, .i .i64 (lk1 u (fun (k : Nat) => (k : Int)) k)), (10, .i .i64 (lk1 u (fun l : List Cu => (l.length : Int)) l0)), (9, .sl .cube l0), (0, .sl .cube l0)], [(4, .box 36 (.pr (.hd (lk2 u (fun (l : List Cu) (k : Nat) => (atL .cube l (k : Nat)).1) l0 k)) (.hd (lk2 u (fun (l : List Cu) (k : Nat) => (atL .cube l (k : Nat)).2) l0 k))))]⟩) _ _ _ 0 ?_ ?_ ?_ ?_
      · intro l st hk
        exact hk
      · exact ⟨Nat.zero_le _, fun p hp => by omega⟩
      · cbv
        all_goals (obtain rfl := Lk.eq_std u; try simp only [Lk.std])
        all_goals (repeat' first | exact trivial | rfl | refine ⟨?_, ?_⟩)
      · rintro j ⟨hj, hjn⟩
        clear hL
        cbv
        obtain rfl := Lk.eq_std u
        simp only [Lk.std]
        have hj : j ≤ k := hj
        have hkl : k < l0.length := hkl
        have hq' : l0.length ≤ 4611686018427387904 := hq'
        have htl : ((l0.take k).drop 0).length = k := by rw [List.drop_zero, List.length_take]; omega
        refine ⟨fun hr => ?_, fun hr => ?_⟩
        · have hml : j < ((l0.take k).drop 0).length := nat_lt hr
          clear hr
          have hg : atL .cube ((l0.take k).drop 0) (Int.ofNat j) = atL .cube l0 (Int.ofNat j) := by
            show ((l0.take k).drop 0).getD j _ = l0.getD j _
            rw [List.drop_zero, List.getD_eq_getElem?_getD, List.getD_eq_getElem?_getD, List.getElem?_take_of_lt (by omega)]
          have hi' : ((0 : Int) ≤ Int.ofNat j ∧ Int.ofNat j < (((l0.take k).drop 0).length : Int)) := idx_ok hml
          rw [wrap_succ j (by omega)]
          refine ⟨by (repeat' first | exact trivial | exact hi' | refine ⟨?_, ?_⟩), fun hb => ?_, fun hb => ?_⟩
          · have hb : meetOk (atL .cube l0 (Int.ofNat k)) (atL .cube ((l0.take k).drop 0) (Int.ofNat j)) = true := hb
            rw [hg] at hb
            rw [apart_no hkl (by omega) hb]
          · have hb : meetOk (atL .cube l0 (Int.ofNat k)) (atL .cube ((l0.take k).drop 0) (Int.ofNat j)) = false := hb
            rw [hg] at hb
            refine ⟨j + 1, ⟨by omega, fun p hp => ?_⟩, by omega, by (repeat' first | exact trivial | rfl | refine ⟨?_, ?_⟩)⟩
            by_cases hpj : p = j
            · rw [hpj]; exact hb
            · exact hjn p (by omega)
        · have hml : ((l0.take k).drop 0).length ≤ j := nat_ge hr
          clear hr
          rw [wrap_succ k (by omega)]
          refine ⟨k + 1, ⟨by omega, fun i p hi hp => ?_⟩, by omega, by (repeat' first | exact trivial | rfl | refine ⟨?_, ?_⟩)⟩
          by_cases hik : i = k
          · subst hik; exact hjn p (by omega)
          · exact hall i p (by omega) hp
    · have hge : l0.length ≤ k := by obtain rfl := Lk.eq_std u; exact nat_ge hr
      clear hr
      obtain rfl := Lk.eq_std u
      simp only [Lk.std]
      rw [(apart_iff l0).2 fun i j hi hj => hall i j (by omega) hj]

theorem plain91 : Plainly Try.prog 91 := ⟨Try.f91, Try.func91, by kernel_rfl, by kernel_rfl⟩
theorem ok91 (u : Lk) : SpecOK Try.prog 91 (apartlS u) := fun args q r h hq => by
  obtain ⟨l0, rfl, rfl, rfl⟩ := apartlS_spec h
  exact fn_okT (u := u) Try.func91 rfl (fns_cons plain61 (ok61 u) fns_nil) rfl rfl (walk91 u l0 hq)

end Mx
