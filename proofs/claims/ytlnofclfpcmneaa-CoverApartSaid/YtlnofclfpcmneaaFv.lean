/- Layer 3: the laws own walks. Own work. -/
import Derived.Test.YtlnofclfpcmneaaPk
namespace Mx
open Go Go.Proofs
noncomputable def reg88_2 : Array Oper := ((regAt (Try.f88.body.getD .skip) 2).getD #[])
theorem drawn88_2 : drawT reg88_2 = true := by decide +kernel
noncomputable def reg88_3 : Array Oper := ((regAt (Try.f88.body.getD .skip) 3).getD #[])
theorem drawn88_3 : drawT reg88_3 = true := by decide +kernel
noncomputable def tab88 : Tab := [(2, ⟨reg88_2, drawn88_2⟩), (3, ⟨reg88_3, drawn88_3⟩)]
set_option maxRecDepth 100000 in
theorem walk88 (u : Lk) : WalkT tab88 503 Try.f88 (Try.f88.body.getD .skip) [(72, allS u), (65, splitS u), (93, coversS u), (95, outsideS u)] u [] (.b true) := by
  intro L hL
  clear hL
  cbv
  obtain rfl := Lk.eq_std u
  simp only [Lk.std]
  have k1 : tiny ([((splitZ (0, 0) 0).1, (splitZ (0, 0) 0).2), ((splitO (0, 0) 0).1, (splitO (0, 0) 0).2)] : List Cu) := by unfold tiny; show 2 ≤ 1000000; omega
  have k2 : tiny ([((splitZ (0, 0) 0).1, (splitZ (0, 0) 0).2)] : List Cu) := by unfold tiny; show 1 ≤ 1000000; omega
  have k3 : coversM [((splitZ (0, 0) 0).1, (splitZ (0, 0) 0).2), ((splitO (0, 0) 0).1, (splitO (0, 0) 0).2)] (0, 0) 9 = true := by decide +kernel
  have k4 : coversE [((splitZ (0, 0) 0).1, (splitZ (0, 0) 0).2), ((splitO (0, 0) 0).1, (splitO (0, 0) 0).2)] (0, 0) 9 = 0 := by decide +kernel
  have k5 : outB (0, 0) [((splitZ (0, 0) 0).1, (splitZ (0, 0) 0).2)] 9 = true := by decide +kernel
  have k6 : outE (0, 0) [((splitZ (0, 0) 0).1, (splitZ (0, 0) 0).2)] 9 = 0 := by decide +kernel
  have k7 : outH (0, 0) [((splitZ (0, 0) 0).1, (splitZ (0, 0) 0).2)] 9 = setHb 0 0 128 := by decide +kernel
  simp only [k1, k2, k3, k4, k5, k6, k7]
  simp

theorem plain88 : Plainly Try.prog 88 := ⟨Try.f88, Try.func88, by kernel_rfl, by kernel_rfl⟩
theorem ok88 : SpecOK Try.prog 88 yesS := fun args q r h hq => by
  obtain ⟨rfl, rfl⟩ := yesS_spec h
  exact fn_okT (u := Lk.std) Try.func88 rfl (fns_cons plain72 (ok72 Lk.std) (fns_cons plain65 (ok65 Lk.std) (fns_cons plain93 (ok93 Lk.std) (fns_cons plain95 (ok95 Lk.std) fns_nil)))) rfl rfl (walk88 Lk.std)

noncomputable def reg28_4 : Array Oper := ((regAt (Try.f28.body.getD .skip) 4).getD #[])
theorem drawn28_4 : drawT reg28_4 = true := by decide +kernel
noncomputable def tab28 : Tab := [(4, ⟨reg28_4, drawn28_4⟩)]
set_option maxRecDepth 100000 in
theorem walk28 (u : Lk) (l0 : List Cu) (h1 : Hd) : WalkT tab28 91 Try.f28 (Try.f28.body.getD .skip) [(88, yesS), (92, haslS u), (97, haslS u), (91, apartlS u), (98, apartlS u)] u [.sl .cube l0, .hd h1] (.b true) := by
  intro L hL
  clear hL
  cbv
  obtain rfl := Lk.eq_std u
  simp only [Lk.std]
  have hcl := cut_len l0
  have hco := cut_ok l0
  generalize (l0.take (bif decide ((40 : Int) < l0.length) then (40 : Int) else l0.length).toNat).drop (0 : Int).toNat = l at hcl ⊢
  have hsm : small l := by unfold small; omega
  have hty : tiny l := by unfold tiny; omega
  simp only [hsm, hco]
  simp

theorem law28 (l0 : List Cu) (h1 : Hd) : FnOK Try.prog 28 [.sl .cube l0, .hd h1] (.b true) :=
  fn_okT (u := Lk.std) Try.func28 rfl (fns_cons plain88 ok88 (fns_cons plain92 (ok92 Lk.std) (fns_cons plain97 (ok97 Lk.std) (fns_cons plain91 (ok91 Lk.std) (fns_cons plain98 (ok98 Lk.std) fns_nil))))) rfl rfl (walk28 Lk.std l0 h1)

noncomputable def tab24 : Tab := []
set_option maxRecDepth 100000 in
theorem walk24 (u : Lk) (v0 : Hd) (m0 : Hd) (l1 : List Cu) (n2 : Int) : WalkT tab24 6095 Try.f24 (Try.f24.body.getD .skip) [(88, yesS), (89, leftS u), (90, leftS u), (67, sameS u)] u [.pr (.hd v0) (.hd m0), .sl .cube l1, .i .i64 n2] (.b true) := by
  intro L hL
  clear hL
  cbv
  obtain rfl := Lk.eq_std u
  simp only [Lk.std]
  have hcl := cut_len l1
  have hco := cut_ok l1
  generalize (l1.take (bif decide ((40 : Int) < l1.length) then (40 : Int) else l1.length).toNat).drop (0 : Int).toNat = l at hcl ⊢
  have hsm : small l := by unfold small; omega
  have hty : tiny l := by unfold tiny; omega
  have hls : shortL (leftM (v0, m0) l n2) := by have := left_small (v0, m0) l n2; unfold shortL; omega
  have e3 : sameM (leftM (v0, m0) l n2) (leftM (v0, m0) l n2) = true := by simp [sameM]
  simp only [hty, hco, hls, e3]
  simp

theorem law24 (v0 : Hd) (m0 : Hd) (l1 : List Cu) (n2 : Int) : FnOK Try.prog 24 [.pr (.hd v0) (.hd m0), .sl .cube l1, .i .i64 n2] (.b true) :=
  fn_okT (u := Lk.std) Try.func24 rfl (fns_cons plain88 ok88 (fns_cons plain89 (ok89 Lk.std) (fns_cons plain90 (ok90 Lk.std) (fns_cons plain67 (ok67 Lk.std) fns_nil)))) rfl rfl (walk24 Lk.std v0 m0 l1 n2)

noncomputable def tab27 : Tab := []
set_option maxRecDepth 100000 in
theorem walk27 (u : Lk) (v0 : Hd) (m0 : Hd) (l1 : List Cu) (n2 : Int) : WalkT tab27 12089258196146291747454927 Try.f27 (Try.f27.body.getD .skip) [(88, yesS), (93, coversS u), (94, coversS u), (95, outsideS u), (96, outsideS u), (59, hasS u), (92, haslS u)] u [.pr (.hd v0) (.hd m0), .sl .cube l1, .i .i64 n2] (.b true) := by
  intro L hL
  clear hL
  cbv
  obtain rfl := Lk.eq_std u
  simp only [Lk.std]
  have hcl := cut_len l1
  have hco := cut_ok l1
  generalize (l1.take (bif decide ((40 : Int) < l1.length) then (40 : Int) else l1.length).toNat).drop (0 : Int).toNat = l at hcl ⊢
  have hsm : small l := by unfold small; omega
  have hty : tiny l := by unfold tiny; omega
  have e1 : coversE l (v0, m0) n2 = leftE (v0, m0) l n2 := rfl
  have e2 : outE (v0, m0) l n2 = leftE (v0, m0) l n2 := rfl
  cases ho : leftOk (v0, m0) l n2
  · have e3 := (left_no ho).2
    have e4 : coversM l (v0, m0) n2 = false := by unfold coversM; rw [ho]; rfl
    have e5 : outB (v0, m0) l n2 = false := by unfold outB; rw [(left_no ho).1]; rfl
    simp only [e1, e2, e3, e4, e5, hty, hsm, hco]
    simp
  · have e3 := (left_yes ho).2
    have e4 : coversM l (v0, m0) n2 = !outB (v0, m0) l n2 := by
      unfold coversM outB
      rw [ho, Bool.true_and]
      cases (leftM (v0, m0) l n2).length <;> simp
    cases hb : outB (v0, m0) l n2
    · rw [hb] at e4
      simp only [e1, e2, e3, e4, hty, hsm, hco]
      simp
    · obtain ⟨e5, e6⟩ := out_in ho hb
      rw [hb] at e4
      have e5 : hasM v0 m0 (outH (v0, m0) l n2) = true := e5
      simp only [e1, e2, e3, e4, e5, e6, hty, hsm, hco]
      simp

theorem law27 (v0 : Hd) (m0 : Hd) (l1 : List Cu) (n2 : Int) : FnOK Try.prog 27 [.pr (.hd v0) (.hd m0), .sl .cube l1, .i .i64 n2] (.b true) :=
  fn_okT (u := Lk.std) Try.func27 rfl (fns_cons plain88 ok88 (fns_cons plain93 (ok93 Lk.std) (fns_cons plain94 (ok94 Lk.std) (fns_cons plain95 (ok95 Lk.std) (fns_cons plain96 (ok96 Lk.std) (fns_cons plain59 (ok59 Lk.std) (fns_cons plain92 (ok92 Lk.std) fns_nil))))))) rfl rfl (walk27 Lk.std v0 m0 l1 n2)

noncomputable def reg25_8 : Array Oper := ((regAt (Try.f25.body.getD .skip) 8).getD #[])
theorem drawn25_8 : drawT reg25_8 = true := by decide +kernel
noncomputable def tab25 : Tab := [(8, ⟨reg25_8, drawn25_8⟩)]
set_option maxRecDepth 100000 in
theorem walk25 (u : Lk) (l0 : List Cu) (h1 : Hd) : WalkT tab25 33685883 Try.f25 (Try.f25.body.getD .skip) [(88, yesS), (59, hasS u), (91, apartlS u)] u [.sl .cube l0, .hd h1] (.b true) := by
  intro L hL
  cbv
  refine (iff_of_eq (u.e3 _ _ _ _)).mpr ⟨fun hr => ?_, fun hr => ?_⟩
  · have hr : (!true) = true := (u.e1 not true).symm.trans hr
    cases hr
  clear hr
  have hcl := cut_len l0
  have hco := cut_ok l0
  refine ⟨by obtain rfl := Lk.eq_std u; (repeat' first | exact trivial | exact hco | refine ⟨?_, ?_⟩), ?_⟩
  refine hL Nat (fun k => k ≤ (List.drop (0 : Int).toNat (List.take (bif decide ((40 : Int) < l0.length) then (40 : Int) else l0.length).toNat l0)).length) (fun k => (List.drop (0 : Int).toNat (List.take (bif decide ((40 : Int) < l0.length) then (40 : Int) else l0.length).toNat l0)).length - k)
      (fun k => ⟨[(6, .i .i64 (lk1 u (fun (k : Nat) => (k : Int)) k)), (5, .i .i64 (lk3 u hitsK (lk3 u (fun (r : List Cu) (l h : Int) => List.drop l.toNat (List.take h.toNat r)) l0 0 (lk2 u (fun (x y : Int) => bif decide (y < x) then y else x) (lk1 u (fun l : List Cu => (l.length : Int)) l0) 40)) h1 k)), (3, .p 3 [] 0), (0, .sl .cube (lk3 u (fun (r : List Cu) (l h : Int) => List.drop l.toNat (List.take h.toNat r)) l0 0 (lk2 u (fun (x y : Int) => bif decide (y < x) then y else x) (lk1 u (fun l : List Cu => (l.length : Int)) l0) 40)))], [(3, .box 34 (.hd h1))]⟩) _ _ _ 0 ?_ ?_ ?_ ?_
  · intro l st hk
    exact hk
  · exact Nat.zero_le _
  · cbv
    all_goals (obtain rfl := Lk.eq_std u; try simp only [Lk.std])
    all_goals (repeat' first | exact trivial | rfl | refine ⟨?_, ?_⟩)
  · rintro k hk
    clear hL
    cbv
    obtain rfl := Lk.eq_std u
    simp only [Lk.std, lk1, lk2, lk3]
    have hcl : (List.drop (0 : Int).toNat (List.take (bif decide ((40 : Int) < l0.length) then (40 : Int) else l0.length).toNat l0)).length ≤ 40 := hcl
    have hk : k ≤ (List.drop (0 : Int).toNat (List.take (bif decide ((40 : Int) < l0.length) then (40 : Int) else l0.length).toNat l0)).length := hk
    generalize (List.drop (0 : Int).toNat (List.take (bif decide ((40 : Int) < l0.length) then (40 : Int) else l0.length).toNat l0)) = l at hcl hk ⊢
    have hsm : small l := by unfold small; omega
    have hle : 0 ≤ hitsK l h1 k ∧ hitsK l h1 k ≤ k := hits_le l h1 k
    refine ⟨fun hr => ?_, fun hr => ?_⟩
    · have hlt : k < l.length := nat_lt hr
      clear hr
      have hs : hitsK l h1 (k + 1) = hitsK l h1 k + one (hasM l[k].1 l[k].2 h1) := hits_succ l h1 k hlt
      have hat : atL .cube l (Int.ofNat k) = l[k] := at_get .cube l k hlt
      rw [wrap_succ k (by omega)]
      simp only [hat]
      refine ⟨by (repeat' first | exact trivial | exact idx_ok hlt | rfl | refine ⟨?_, ?_⟩), fun hb => ?_, fun hb => ?_⟩
      · have hw : IntKind.i64.wrap (hitsK l h1 k + 1) = hitsK l h1 (k + 1) := by
          rw [wrap_i64 (by omega) (by omega), hs, hb]; rfl
        refine ⟨k + 1, by omega, by omega, ?_⟩
        rw [hw]
        (repeat' first | exact trivial | rfl | refine ⟨?_, ?_⟩)
      · have hw : hitsK l h1 (k + 1) = hitsK l h1 k := by
          rw [hs, hb]; simp [one]
        refine ⟨k + 1, by omega, by omega, ?_⟩
        rw [hw]
        (repeat' first | exact trivial | rfl | refine ⟨?_, ?_⟩)
    · have hge : l.length ≤ k := nat_ge hr
      clear hr
      obtain rfl : k = l.length := by omega
      have e1 : hitsK l h1 l.length = (hits l h1 : Int) := by rw [hitsK, List.take_length]
      have e2 := apart_hits h1 l
      rw [e1]
      cases ha : apartL l
      · simp [hsm]
      · have e2 := e2 ha
        have : decide ((hits l h1 : Int) ≤ 1) = true := by rw [decide_eq_true_eq]; omega
        simp [hsm, this]

theorem law25 (l0 : List Cu) (h1 : Hd) : FnOK Try.prog 25 [.sl .cube l0, .hd h1] (.b true) :=
  fn_okT (u := Lk.std) Try.func25 rfl (fns_cons plain88 ok88 (fns_cons plain59 (ok59 Lk.std) (fns_cons plain91 (ok91 Lk.std) fns_nil))) rfl rfl (walk25 Lk.std l0 h1)

noncomputable def reg26_11 : Array Oper := ((regAt (Try.f26.body.getD .skip) 11).getD #[])
theorem drawn26_11 : drawT reg26_11 = true := by decide +kernel
noncomputable def tab26 : Tab := [(11, ⟨reg26_11, drawn26_11⟩)]
set_option maxRecDepth 100000 in
theorem walk26 (u : Lk) (v0 : Hd) (m0 : Hd) (l1 : List Cu) (h2 : Hd) : WalkT tab26 35321878163439 Try.f26 (Try.f26.body.getD .skip) [(88, yesS), (89, leftS u), (59, hasS u), (92, haslS u)] u [.pr (.hd v0) (.hd m0), .sl .cube l1, .hd h2] (.b true) := by
  intro L hL
  cbv
  refine (iff_of_eq (u.e3 _ _ _ _)).mpr ⟨fun hr => ?_, fun hr => ?_⟩
  · have hr : (!true) = true := (u.e1 not true).symm.trans hr
    cases hr
  clear hr
  have hcl := cut_len l1
  have hco := cut_ok l1
  have hty : tiny (List.drop (0 : Int).toNat (List.take (bif decide ((40 : Int) < l1.length) then (40 : Int) else l1.length).toNat l1)) := by unfold tiny; omega
  refine ⟨by obtain rfl := Lk.eq_std u; (repeat' first | exact trivial | exact hco | refine ⟨?_, ?_⟩), by obtain rfl := Lk.eq_std u; (repeat' first | exact trivial | exact hty | refine ⟨?_, ?_⟩), ?_⟩
  refine (iff_of_eq (u.e3 _ _ _ _)).mpr ⟨fun hr => ?_, fun hr => ?_⟩
  · obtain rfl := Lk.eq_std u
    simp only [Lk.std] at hr ⊢
    generalize (List.drop (0 : Int).toNat (List.take (bif decide ((40 : Int) < l1.length) then (40 : Int) else l1.length).toNat l1)) = l at hr ⊢
    cases ho : leftOk (v0, m0) l 1000
    · obtain ⟨e1, e2⟩ := left_no ho
      rw [e1, e2]
      simp
    · rw [(left_yes ho).2] at hr
      simp at hr
  have ho : leftOk (v0, m0) (List.drop (0 : Int).toNat (List.take (bif decide ((40 : Int) < l1.length) then (40 : Int) else l1.length).toNat l1)) 1000 = true := by
    obtain rfl := Lk.eq_std u
    simp only [Lk.std] at hr
    cases ho : leftOk (v0, m0) (List.drop (0 : Int).toNat (List.take (bif decide ((40 : Int) < l1.length) then (40 : Int) else l1.length).toNat l1)) 1000
    · rw [(left_no ho).2] at hr
      simp at hr
    · rfl
  clear hr
  have hlm := left_small (v0, m0) (List.drop (0 : Int).toNat (List.take (bif decide ((40 : Int) < l1.length) then (40 : Int) else l1.length).toNat l1)) 1000
  refine hL Nat (fun k => k ≤ (leftM (v0, m0) (List.drop (0 : Int).toNat (List.take (bif decide ((40 : Int) < l1.length) then (40 : Int) else l1.length).toNat l1)) 1000).length) (fun k => (leftM (v0, m0) (List.drop (0 : Int).toNat (List.take (bif decide ((40 : Int) < l1.length) then (40 : Int) else l1.length).toNat l1)) 1000).length - k)
      (fun k => ⟨[(10, .i .i64 (lk1 u (fun (k : Nat) => (k : Int)) k)), (9, .i .i64 (lk3 u hitsK (lk3 u leftM (v0, m0) (lk3 u (fun (r : List Cu) (l h : Int) => List.drop l.toNat (List.take h.toNat r)) l1 0 (lk2 u (fun (x y : Int) => bif decide (y < x) then y else x) (lk1 u (fun l : List Cu => (l.length : Int)) l1) 40)) 1000) h2 k)), (7, .sl .cube (lk3 u leftM (v0, m0) (lk3 u (fun (r : List Cu) (l h : Int) => List.drop l.toNat (List.take h.toNat r)) l1 0 (lk2 u (fun (x y : Int) => bif decide (y < x) then y else x) (lk1 u (fun l : List Cu => (l.length : Int)) l1) 40)) 1000)), (5, .p 5 [] 0), (3, .p 3 [] 0), (1, .sl .cube (lk3 u (fun (r : List Cu) (l h : Int) => List.drop l.toNat (List.take h.toNat r)) l1 0 (lk2 u (fun (x y : Int) => bif decide (y < x) then y else x) (lk1 u (fun l : List Cu => (l.length : Int)) l1) 40)))], [(5, .box 34 (.hd h2)), (3, .box 36 (.pr (.hd v0) (.hd m0)))]⟩) _ _ _ 0 ?_ ?_ ?_ ?_
  · intro l st hk
    exact hk
  · exact Nat.zero_le _
  · cbv
    all_goals (obtain rfl := Lk.eq_std u; try simp only [Lk.std])
    all_goals (repeat' first | exact trivial | rfl | refine ⟨?_, ?_⟩)
  · rintro k hk
    clear hL
    cbv
    obtain rfl := Lk.eq_std u
    simp only [Lk.std, lk1, lk2, lk3]
    have hcl : (List.drop (0 : Int).toNat (List.take (bif decide ((40 : Int) < l1.length) then (40 : Int) else l1.length).toNat l1)).length ≤ 40 := hcl
    have hk : k ≤ (leftM (v0, m0) (List.drop (0 : Int).toNat (List.take (bif decide ((40 : Int) < l1.length) then (40 : Int) else l1.length).toNat l1)) 1000).length := hk
    have ho : leftOk (v0, m0) (List.drop (0 : Int).toNat (List.take (bif decide ((40 : Int) < l1.length) then (40 : Int) else l1.length).toNat l1)) 1000 = true := ho
    have hlm : (leftM (v0, m0) (List.drop (0 : Int).toNat (List.take (bif decide ((40 : Int) < l1.length) then (40 : Int) else l1.length).toNat l1)) 1000).length ≤ 1000 := hlm
    generalize (List.drop (0 : Int).toNat (List.take (bif decide ((40 : Int) < l1.length) then (40 : Int) else l1.length).toNat l1)) = l at hcl hk ho hlm ⊢
    have hph : hits (leftM (v0, m0) l 1000) h2 = one (hasM v0 m0 h2 && !hasL l h2) := pieces_hits ho h2
    generalize leftM (v0, m0) l 1000 = ps at hk hlm hph ⊢
    have hsm : small l := by unfold small; omega
    have hle : 0 ≤ hitsK ps h2 k ∧ hitsK ps h2 k ≤ k := hits_le ps h2 k
    refine ⟨fun hr => ?_, fun hr => ?_⟩
    · have hlt : k < ps.length := nat_lt hr
      clear hr
      have hs : hitsK ps h2 (k + 1) = hitsK ps h2 k + one (hasM ps[k].1 ps[k].2 h2) := hits_succ ps h2 k hlt
      have hat : atL .cube ps (Int.ofNat k) = ps[k] := at_get .cube ps k hlt
      rw [wrap_succ k (by omega)]
      simp only [hat]
      refine ⟨by (repeat' first | exact trivial | exact idx_ok hlt | rfl | refine ⟨?_, ?_⟩), fun hb => ?_, fun hb => ?_⟩
      · have hw : IntKind.i64.wrap (hitsK ps h2 k + 1) = hitsK ps h2 (k + 1) := by
          rw [wrap_i64 (by omega) (by omega), hs, hb]; rfl
        refine ⟨k + 1, by omega, by omega, ?_⟩
        rw [hw]
        (repeat' first | exact trivial | rfl | refine ⟨?_, ?_⟩)
      · have hw : hitsK ps h2 (k + 1) = hitsK ps h2 k := by
          rw [hs, hb]; simp [one]
        refine ⟨k + 1, by omega, by omega, ?_⟩
        rw [hw]
        (repeat' first | exact trivial | rfl | refine ⟨?_, ?_⟩)
    · have hge : ps.length ≤ k := nat_ge hr
      clear hr
      obtain rfl : k = ps.length := by omega
      have e1 : hitsK ps h2 ps.length = (one (hasM v0 m0 h2 && !hasL l h2) : Int) := by rw [hitsK, List.take_length, hph]
      rw [e1]
      cases hasM v0 m0 h2 <;> cases hasL l h2 <;> simp [one, hsm]

theorem law26 (v0 : Hd) (m0 : Hd) (l1 : List Cu) (h2 : Hd) : FnOK Try.prog 26 [.pr (.hd v0) (.hd m0), .sl .cube l1, .hd h2] (.b true) :=
  fn_okT (u := Lk.std) Try.func26 rfl (fns_cons plain88 ok88 (fns_cons plain89 (ok89 Lk.std) (fns_cons plain59 (ok59 Lk.std) (fns_cons plain92 (ok92 Lk.std) fns_nil)))) rfl rfl (walk26 Lk.std v0 m0 l1 h2)

end Mx
