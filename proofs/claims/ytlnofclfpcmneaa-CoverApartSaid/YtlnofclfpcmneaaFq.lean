/- Layer 15: the laws own walks. Own work. -/
import Derived.Test.YtlnofclfpcmneaaPh
namespace Mx
open Go Go.Proofs
/-- a list of at most 40 elements -/
theorem cut_len {α : Type} (l : List α) : ((l.take (bif decide ((40 : Int) < l.length) then (40 : Int) else l.length).toNat).drop (0 : Int).toNat).length ≤ 40 := by
  rw [show (0 : Int).toNat = 0 from rfl, List.drop_zero, List.length_take]
  cases h : decide ((40 : Int) < l.length)
  · rw [decide_eq_false_iff_not] at h
    rw [cond_false]; omega
  · rw [cond_true]; omega
theorem cut_ok {α : Type} (l : List α) : (0 : Int) ≤ 0 ∧ (0 : Int) ≤ (bif decide ((40 : Int) < l.length) then (40 : Int) else l.length) ∧ (bif decide ((40 : Int) < l.length) then (40 : Int) else l.length) ≤ l.length := by
  cases h : decide ((40 : Int) < l.length)
  · rw [cond_false]; omega
  · rw [decide_eq_true_eq] at h
    rw [cond_true]; omega

noncomputable def tab49 : Tab := []
set_option maxRecDepth 100000 in
theorem walk49 (u : Lk) : WalkT tab49 1023 Try.f49 (Try.f49.body.getD .skip) [(50, aboutS u)] u [] (.b true) := by
  intro L hL
  clear hL
  cbv
  obtain rfl := Lk.eq_std u
  simp only [Lk.std]
  have k0 : small ([(0, (setHb 0 0 128, setHb 0 0 128), 1), (1, (0, 0), 2)] : List Ru) := by unfold small; decide
  have k1 : lookB [(0, (setHb 0 0 128, setHb 0 0 128), 1), (1, (0, 0), 2)] 0 = true := by decide +kernel
  have k2 : lookB [(0, (setHb 0 0 128, setHb 0 0 128), 1), (1, (0, 0), 2)] (setHb 0 0 255) = true := by decide +kernel
  have k3 : aboutA [(0, (setHb 0 0 128, setHb 0 0 128), 1), (1, (0, 0), 2)] 0 = 2 := by decide +kernel
  have k4 : aboutA [(0, (setHb 0 0 128, setHb 0 0 128), 1), (1, (0, 0), 2)] (setHb 0 0 255) = 1 := by decide +kernel
  have k5 : aboutC [(0, (setHb 0 0 128, setHb 0 0 128), 1), (1, (0, 0), 2)] 0 = (0, setHb 0 0 128) := by decide +kernel
  have k6 : aboutC [(0, (setHb 0 0 128, setHb 0 0 128), 1), (1, (0, 0), 2)] (setHb 0 0 255) = (setHb 0 0 128, setHb 0 0 128) := by decide +kernel
  have eself : ∀ a b, eqv (.pr (.hd a) (.hd b)) (.pr (.hd a) (.hd b)) = true := by intro a b; simp [eqv]
  simp only [k1, k2, k3, k4, k5, k6, eself]
  simp [small]

theorem plain49 : Plainly Try.prog 49 := ⟨Try.f49, Try.func49, by kernel_rfl, by kernel_rfl⟩
theorem ok49 : SpecOK Try.prog 49 yesS := fun args q r h hq => by
  obtain ⟨rfl, rfl⟩ := yesS_spec h
  exact fn_okT (u := Lk.std) Try.func49 rfl (fns_cons plain50 (ok50 Lk.std) fns_nil) rfl rfl (walk49 Lk.std)

noncomputable def tab9 : Tab := []
set_option maxRecDepth 100000 in
theorem walk9 (u : Lk) (l0 : List Ru) (h1 : Hd) : WalkT tab9 6139 Try.f9 (Try.f9.body.getD .skip) [(49, yesS), (50, aboutS u), (51, raboutS u), (52, rightS u)] u [.sl .rule l0, .hd h1] (.b true) := by
  intro L hL
  clear hL
  cbv
  obtain rfl := Lk.eq_std u
  simp only [Lk.std]
  have hcl := cut_len l0
  have hco := cut_ok l0
  generalize (l0.take (bif decide ((40 : Int) < l0.length) then (40 : Int) else l0.length).toNat).drop (0 : Int).toNat = l at hcl ⊢
  have hsm : small l := by unfold small; omega
  obtain ⟨e1, e2, e3⟩ := about_eq l h1
  have e4 := about_right l h1
  have eself : ∀ a b, eqv (.pr (.hd a) (.hd b)) (.pr (.hd a) (.hd b)) = true := by intro a b; simp [eqv]
  have e5 : rightM ((aboutC l h1).1, (aboutC l h1).2) = true := e4
  simp only [e1, e2, e3, e5, eself, hsm, hco]
  simp

theorem law9 (l0 : List Ru) (h1 : Hd) : FnOK Try.prog 9 [.sl .rule l0, .hd h1] (.b true) :=
  fn_okT (u := Lk.std) Try.func9 rfl (fns_cons plain49 ok49 (fns_cons plain50 (ok50 Lk.std) (fns_cons plain51 (ok51 Lk.std) (fns_cons plain52 (ok52 Lk.std) fns_nil)))) rfl rfl (walk9 Lk.std l0 h1)

noncomputable def tab11 : Tab := []
set_option maxRecDepth 100000 in
theorem walk11 (u : Lk) (l0 : List Ru) (h1 : Hd) (h2 : Hd) : WalkT tab11 4295016439 Try.f11 (Try.f11.body.getD .skip) [(49, yesS), (50, aboutS u), (53, firstS u), (58, lookS u), (59, hasS u)] u [.sl .rule l0, .hd h1, .hd h2] (.b true) := by
  intro L hL
  clear hL
  cbv
  obtain rfl := Lk.eq_std u
  simp only [Lk.std]
  have hcl := cut_len l0
  have hco := cut_ok l0
  generalize (l0.take (bif decide ((40 : Int) < l0.length) then (40 : Int) else l0.length).toNat).drop (0 : Int).toNat = l at hcl ⊢
  have hsm : small l := by unfold small; omega
  have eb : lookB l h1 = decide (firstN l h1 < l.length) := rfl
  cases hb : lookB l h1
  · have ef : firstM l h1 = -1 := by unfold firstM; rw [← eb, hb]; rfl
    simp only [hb, ef, hsm, hco]
    simp
  · obtain ⟨hn, f1, f2, ef⟩ := first_found hb
    have eh : hasM (aboutC l h1).1 (aboutC l h1).2 h1 = true := (about_kept hb).has
    cases hg : hasM (aboutC l h1).1 (aboutC l h1).2 h2
    · simp only [hb, eh, hg, hsm, hco]
      simp
    · have e1 := about_safe hb hg
      have e2 : firstM l h2 = firstM l h1 := by unfold firstM; rw [e1]
      have e3 : lookB l h2 = true := by unfold lookB; rw [e1]; simpa using hn
      have e4 : (lookR l h2).2.2 = aboutA l h1 := by
        unfold lookR aboutA
        rw [e1, hb, at_rule hn, List.getD_eq_getElem?_getD, List.getElem?_eq_getElem hn]; rfl
      simp only [hb, eh, hg, e2, e3, e4, hsm, hco]
      simp

theorem law11 (l0 : List Ru) (h1 : Hd) (h2 : Hd) : FnOK Try.prog 11 [.sl .rule l0, .hd h1, .hd h2] (.b true) :=
  fn_okT (u := Lk.std) Try.func11 rfl (fns_cons plain49 ok49 (fns_cons plain50 (ok50 Lk.std) (fns_cons plain53 (ok53 Lk.std) (fns_cons plain58 (ok58 Lk.std) (fns_cons plain59 (ok59 Lk.std) fns_nil))))) rfl rfl (walk11 Lk.std l0 h1 h2)

noncomputable def reg10_8 : Array Oper := ((regAt (Try.f10.body.getD .skip) 8).getD #[])
theorem drawn10_8 : drawT reg10_8 = true := by decide +kernel
noncomputable def tab10 : Tab := [(8, ⟨reg10_8, drawn10_8⟩)]
set_option maxRecDepth 100000 in
theorem walk10 (u : Lk) (l0 : List Ru) (h1 : Hd) (n2 : Int) : WalkT tab10 1180663678448888190679 Try.f10 (Try.f10.body.getD .skip) [(49, yesS), (50, aboutS u), (53, firstS u), (54, clearS u), (55, withinS u), (56, atS u), (57, setS u)] u [.sl .rule l0, .hd h1, .i .i64 n2] (.b true) := by
  intro L hL
  clear hL
  cbv
  obtain rfl := Lk.eq_std u
  simp only [Lk.std]
  have hcl := cut_len l0
  have hco := cut_ok l0
  generalize (l0.take (bif decide ((40 : Int) < l0.length) then (40 : Int) else l0.length).toNat).drop (0 : Int).toNat = l at hcl ⊢
  have hsm : small l := by unfold small; omega
  have eb : lookB l h1 = decide (firstN l h1 < l.length) := rfl
  cases hb : lookB l h1
  · have ef : firstM l h1 = -1 := by unfold firstM; rw [← eb, hb]; rfl
    simp only [hb, ef, hsm, hco]
    simp
  · obtain ⟨hn, f1, f2, ef⟩ := first_found hb
    have ep : (decide (0 ≤ (firstN l h1 : Int))) = true := by simp
    have eq : small l ∧ ((firstN l h1 : Nat) : Int) ≤ l.length := ⟨hsm, by omega⟩
    have ei : (0 : Int) ≤ ((firstN l h1 : Nat) : Int) ∧ ((firstN l h1 : Nat) : Int) < l.length := ⟨by omega, by omega⟩
    have ec : clearM l (firstN l h1 : Nat) ((aboutC l h1).1, (aboutC l h1).2) = true := about_clear hb
    have ew : withinM ((aboutC l h1).1, (aboutC l h1).2) ((atL .rule l (firstN l h1 : Nat)).2.1.1, (atL .rule l (firstN l h1 : Nat)).2.1.2) = true := about_within hb
    by_cases hin : n2 < 0
    · have d1 : decide (n2 < 0) = true := by simpa using hin
      simp only [hb, ef, ep, d1, eq, ei, hsm, hco]
      simp
    have d1 : decide (n2 < 0) = false := by simpa using hin
    by_cases hin2 : 104 ≤ n2
    · have d2 : decide (104 ≤ n2) = true := by simpa using hin2
      simp only [hb, ef, ep, d1, d2, eq, ei, hsm, hco]
      simp
    have d2 : decide (104 ≤ n2) = false := by simpa using hin2
    obtain ⟨i, rfl⟩ := Int.eq_ofNat_of_zero_le (show 0 ≤ n2 by omega)
    have hi : i < 104 := by omega
    have a1 : decide (atM (aboutC l h1).1 (aboutC l h1).2 (i : Int) = 2) = !(aboutC l h1).2.getMsbD i := at_free _ _ hi
    have a2 : (atM (atL .rule l (firstN l h1 : Nat)).2.1.1 (atL .rule l (firstN l h1 : Nat)).2.1.2 (i : Int) != 2) = (atL .rule l (firstN l h1 : Nat)).2.1.2.getMsbD i := at_two _ _ hi
    have em := about_most hb hi
    have hw : (wholeM l (firstN l h1)).2 = (atL .rule l (firstN l h1 : Nat)).2.1.2 := rfl
    rw [hw] at em
    have es : clearM l (firstN l h1 : Nat) (setV (aboutC l h1).1 (i : Int) 2, setK (aboutC l h1).2 (i : Int) 2) = clearM l (firstN l h1 : Nat) (setC (aboutC l h1) (i : Nat) 2) := rfl
    simp only [hb, ef, ep, d1, d2, eq, ei, ec, ew, a1, a2, es, hsm, hco]
    revert em
    cases (aboutC l h1).2.getMsbD i
    · intro _
      simp
    · cases (atL E.rule l (firstN l h1 : Nat)).2.1.2.getMsbD i
      · intro em
        have em := em rfl rfl
        simp only [em]
        simp
      · intro _
        simp

theorem law10 (l0 : List Ru) (h1 : Hd) (n2 : Int) : FnOK Try.prog 10 [.sl .rule l0, .hd h1, .i .i64 n2] (.b true) :=
  fn_okT (u := Lk.std) Try.func10 rfl (fns_cons plain49 ok49 (fns_cons plain50 (ok50 Lk.std) (fns_cons plain53 (ok53 Lk.std) (fns_cons plain54 (ok54 Lk.std) (fns_cons plain55 (ok55 Lk.std) (fns_cons plain56 (ok56 Lk.std) (fns_cons plain57 (ok57 Lk.std) fns_nil))))))) rfl rfl (walk10 Lk.std l0 h1 n2)

noncomputable def tab12 : Tab := []
set_option maxRecDepth 100000 in
theorem walk12 (u : Lk) (l0 : List Ru) (h1 : Hd) (h2 : Hd) : WalkT tab12 137439150071 Try.f12 (Try.f12.body.getD .skip) [(49, yesS), (50, aboutS u), (59, hasS u), (58, lookS u)] u [.sl .rule l0, .hd h1, .hd h2] (.b true) := by
  intro L hL
  clear hL
  cbv
  obtain rfl := Lk.eq_std u
  simp only [Lk.std]
  have hcl := cut_len l0
  have hco := cut_ok l0
  generalize (l0.take (bif decide ((40 : Int) < l0.length) then (40 : Int) else l0.length).toNat).drop (0 : Int).toNat = l at hcl ⊢
  have hsm : small l := by unfold small; omega
  have eself : ∀ a b, eqv (.pr (.hd a) (.hd b)) (.pr (.hd a) (.hd b)) = true := by intro a b; simp [eqv]
  cases hb : lookB l h1
  · simp only [hb, hsm, hco]
    simp
  · cases hg : hasM (aboutC l h1).1 (aboutC l h1).2 h2
    · simp only [hb, hg, hsm, hco]
      simp
    · obtain ⟨e1, e2, e3, e4⟩ := about_twice (a := aboutA l h1) (l := l) (about_kept hb).canon hg
      have hM : (([(0, ((aboutC l h1).1, (aboutC l h1).2), aboutA l h1)] : List Ru).append l) = (0, aboutC l h1, aboutA l h1) :: l := rfl
      have hl1 : lenS (SV.sl E.rule ((0, aboutC l h1, aboutA l h1) :: l)) ≤ 1099511627776 := by
        show (((0, aboutC l h1, aboutA l h1) :: l).length : Int) ≤ _
        rw [List.length_cons]; omega
      have hs1 : small ((0, aboutC l h1, aboutA l h1) :: l) := by unfold small; rw [List.length_cons]; omega
      simp only [hM, hb, hg, e1, e2, e3, e4, eself, hl1, hs1, hsm, hco]
      simp

theorem law12 (l0 : List Ru) (h1 : Hd) (h2 : Hd) : FnOK Try.prog 12 [.sl .rule l0, .hd h1, .hd h2] (.b true) :=
  fn_okT (u := Lk.std) Try.func12 rfl (fns_cons plain49 ok49 (fns_cons plain50 (ok50 Lk.std) (fns_cons plain59 (ok59 Lk.std) (fns_cons plain58 (ok58 Lk.std) fns_nil)))) rfl rfl (walk12 Lk.std l0 h1 h2)

noncomputable def reg16_11 : Array Oper := ((regAt (Try.f16.body.getD .skip) 11).getD #[])
theorem drawn16_11 : drawT reg16_11 = true := by decide +kernel
noncomputable def tab16 : Tab := [(11, ⟨reg16_11, drawn16_11⟩)]
set_option maxRecDepth 100000 in
theorem walk16 (u : Lk) (l0 : List Ru) (n1 : Int) : WalkT tab16 1100082053875 Try.f16 (Try.f16.body.getD .skip) [(49, yesS), (69, needsS u), (70, needsS u)] u [.sl .rule l0, .i .i64 n1] (.b true) := by
  intro L hL
  cbv
  refine (iff_of_eq (u.e3 _ _ _ _)).mpr ⟨fun hr => ?_, fun hr => ?_⟩
  · have hr : (!true) = true := (u.e1 not true).symm.trans hr
    cases hr
  clear hr
  have hcl := cut_len l0
  have hco := cut_ok l0
  have ht : tiny (List.drop (0 : Int).toNat (List.take (bif decide ((40 : Int) < l0.length) then (40 : Int) else l0.length).toNat l0)) := by unfold tiny; omega
  have hX : ∀ l : List Ru, l.length ≤ 40 → (needsM l n1).length ≤ 40 := by
    intro l hl
    unfold needsM
    cases hy : needsIn l n1
    · simp
    · obtain ⟨h01, h02, h03⟩ := needs_in hy
      have : (needsK l n1 n1.toNat).length ≤ n1.toNat := needs_len l n1 n1.toNat
      rw [cond_true]; omega
  have hX := hX _ hcl
  refine ⟨by obtain rfl := Lk.eq_std u; exact ⟨hco, trivial⟩, by obtain rfl := Lk.eq_std u; exact ⟨ht, trivial⟩, by obtain rfl := Lk.eq_std u; exact ⟨ht, trivial⟩, ?_⟩
  refine (iff_of_eq (u.e3 _ _ _ _)).mpr ⟨fun hr => ?_, fun hr => ?_⟩
  · exfalso
    obtain rfl := Lk.eq_std u
    simp only [Lk.std] at hr
    simp at hr
  clear hr
  refine hL Nat (fun k => k ≤ (needsM (List.drop (0 : Int).toNat (List.take (bif decide ((40 : Int) < l0.length) then (40 : Int) else l0.length).toNat l0)) n1).length) (fun k => (needsM (List.drop (0 : Int).toNat (List.take (bif decide ((40 : Int) < l0.length) then (40 : Int) else l0.length).toNat l0)) n1).length - k)
    (fun k => ⟨[(7, .i .i64 (lk1 u (fun (k : Nat) => (k : Int)) k)), (6, .sl .int (lk2 u needsM (lk3 u (fun (r : List Ru) (l h : Int) => List.drop l.toNat (List.take h.toNat r)) l0 0 (lk2 u (fun (x y : Int) => bif decide (y < x) then y else x) (lk1 u (fun l : List Ru => (l.length : Int)) l0) 40)) n1)), (5, .sl .int (lk2 u needsM (lk3 u (fun (r : List Ru) (l h : Int) => List.drop l.toNat (List.take h.toNat r)) l0 0 (lk2 u (fun (x y : Int) => bif decide (y < x) then y else x) (lk1 u (fun l : List Ru => (l.length : Int)) l0) 40)) n1))], []⟩) _ _ _ 0 ?_ ?_ ?_ ?_
  · intro l st hk
    exact hk
  · simp
  · cbv
    all_goals (obtain rfl := Lk.eq_std u; try simp only [Lk.std])
    all_goals (repeat' first | exact trivial | rfl | refine ⟨?_, ?_⟩)
  · rintro k hk
    clear hL
    cbv
    obtain rfl := Lk.eq_std u
    simp only [Lk.std, lk1, lk2, lk3]
    generalize needsM (List.drop (0 : Int).toNat (List.take (bif decide ((40 : Int) < l0.length) then (40 : Int) else l0.length).toNat l0)) n1 = X at hX hk ⊢
    refine ⟨fun hr => ?_, fun hr => ?_⟩
    · have hlt : k < X.length := nat_lt hr
      have hX : X.length ≤ 40 := hX
      rw [wrap_succ k (by omega)]
      refine ⟨by (repeat' first | exact trivial | exact idx_ok hlt | rfl | refine ⟨?_, ?_⟩), fun hb => ?_, fun hb => ?_⟩
      · simp at hb
      · refine ⟨k + 1, by omega, by omega, by (repeat' first | exact trivial | rfl | refine ⟨?_, ?_⟩)⟩
    · trivial

theorem law16 (l0 : List Ru) (n1 : Int) : FnOK Try.prog 16 [.sl .rule l0, .i .i64 n1] (.b true) :=
  fn_okT (u := Lk.std) Try.func16 rfl (fns_cons plain49 ok49 (fns_cons plain69 (ok69 Lk.std) (fns_cons plain70 (ok70 Lk.std) fns_nil))) rfl rfl (walk16 Lk.std l0 n1)

end Mx
