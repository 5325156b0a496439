/- The laws of layer 2: their own walks. Own work. -/
import Derived.Test.YtlnofclfpcmneaaPc
namespace Mx
open Go Go.Proofs
theorem pair_eta (c : Cu) : (c.1, c.2) = c := rfl

set_option maxRecDepth 100000 in
theorem walk17 (u : Lk) (v0 : Hd) (m0 : Hd) (v1 : Hd) (m1 : Hd) (h2 : Hd) : Walk Try.f17 (Try.f17.body.getD .skip) [(60, yesS), (55, withinS u), (71, rwithinS u), (72, allS u), (59, hasS u)] u [.pr (.hd v0) (.hd m0), .pr (.hd v1) (.hd m1), .hd h2] (.b true) := by
  intro L hL
  clear hL
  cbv
  obtain rfl := Lk.eq_std u
  simp only [Lk.std]
  have e1 := within_eq (v0, m0) (v1, m1)
  have e2 := within_self (v0, m0)
  have e3 := within_all (v0, m0)
  have e4 := fun h => within_has (a := (v0, m0)) (b := (v1, m1)) h h2
  simp only [e3]
  revert e4
  generalize withinM (v0, m0) (v1, m1) = w at e1 ⊢
  cases w <;> cases hasM v0 m0 h2 <;> cases hasM v1 m1 h2 <;> simp [← e1, e2]

theorem law17 (v0 : Hd) (m0 : Hd) (v1 : Hd) (m1 : Hd) (h2 : Hd) : FnOK Try.prog 17 [.pr (.hd v0) (.hd m0), .pr (.hd v1) (.hd m1), .hd h2] (.b true) :=
  fn_ok (u := Lk.std) Try.func17 rfl (fns_cons plain60 ok60 (fns_cons plain55 (ok55 Lk.std) (fns_cons plain71 (ok71 Lk.std) (fns_cons plain72 (ok72 Lk.std) (fns_cons plain59 (ok59 Lk.std) fns_nil))))) rfl rfl (walk17 Lk.std v0 m0 v1 m1 h2)


noncomputable def reg18_4 : Array Oper := ((regAt (Try.f18.body.getD .skip) 4).getD #[])
theorem drawn18_4 : drawT reg18_4 = true := by decide +kernel
noncomputable def tab18 : Tab := [(4, ⟨reg18_4, drawn18_4⟩)]
set_option maxRecDepth 100000 in
theorem walk18 (u : Lk) (v0 : Hd) (m0 : Hd) (h1 : Hd) : WalkT tab18 191 Try.f18 (Try.f18.body.getD .skip) [(60, yesS), (73, canonS u), (43, canonS u), (59, hasS u), (74, hasS u), (52, rightS u), (72, allS u), (75, ofS u)] u [.pr (.hd v0) (.hd m0), .hd h1] (.b true) := by
  intro L hL
  clear hL
  cbv
  obtain rfl := Lk.eq_std u
  simp only [Lk.std]
  have e1 : ∀ h, hasM (canonM (v0, m0)).1 (canonM (v0, m0)).2 h = hasM v0 m0 h := fun h => has_canon (v0, m0) h
  have e2 : hasM 0 0 h1 = true := has_all h1
  have e3 : hasM h1 ones h1 = true := by rw [has_one]; simp
  have e4 : rightM (canonM (v0, m0)) = true := by unfold rightM; rw [canon_idem]; simp
  have e5 : rightM (v0, m0) = (canonM (v0, m0) == (v0, m0)) := rfl
  have e6 : ((canonM (v0, m0)).1, (canonM (v0, m0)).2) = canonM (v0, m0) := rfl
  have e7 : eqv (.pr (.hd (canonM (v0, m0)).1) (.hd (canonM (v0, m0)).2)) (.pr (.hd (canonM (v0, m0)).1) (.hd (canonM (v0, m0)).2)) = true := by simp [eqv]
  have e8 : (rightM (v0, m0) = eqv (.pr (.hd v0) (.hd m0)) (.pr (.hd (canonM (v0, m0)).1) (.hd (canonM (v0, m0)).2))) = True := by
    rw [e5, eq_iff_iff, iff_true, Bool.eq_iff_iff, beq_iff_eq]
    simp only [eqv, Bool.and_eq_true, beq_iff_eq]
    exact ⟨fun h => ⟨by rw [h], by rw [h]⟩, fun h => Prod.ext h.1.symm h.2.symm⟩
  simp only [e6, e1, e2, e3, e4, e7, e8]
  simp only [decide_true, cond_true, BEq.rfl, and_true, true_and, implies_true, true_implies, Bool.not_true, Bool.false_eq_true, Bool.true_eq_false, reduceCtorEq, false_implies, and_self]

theorem law18 (v0 : Hd) (m0 : Hd) (h1 : Hd) : FnOK Try.prog 18 [.pr (.hd v0) (.hd m0), .hd h1] (.b true) :=
  fn_okT (u := Lk.std) Try.func18 rfl (fns_cons plain60 ok60 (fns_cons plain73 (ok73 Lk.std) (fns_cons plain43 (ok43 Lk.std) (fns_cons plain59 (ok59 Lk.std) (fns_cons plain74 (ok74 Lk.std) (fns_cons plain52 (ok52 Lk.std) (fns_cons plain72 (ok72 Lk.std) (fns_cons plain75 (ok75 Lk.std) fns_nil)))))))) rfl rfl (walk18 Lk.std v0 m0 h1)

set_option maxRecDepth 100000 in
theorem walk19 (u : Lk) (v0 : Hd) (m0 : Hd) : Walk Try.f19 (Try.f19.body.getD .skip) [(60, yesS), (76, endsS u), (77, endsS u), (78, freeS u), (79, rfreeS u), (59, hasS u)] u [.pr (.hd v0) (.hd m0)] (.b true) := by
  intro L hL
  clear hL
  cbv
  obtain rfl := Lk.eq_std u
  simp only [Lk.std]
  have e1 := free_eq (v0, m0)
  have e2 := has_lo (v0, m0)
  have e3 := has_hi (v0, m0)
  have e4 : hasM v0 m0 (loM (v0, m0)) = true := e2
  have e5 : hasM v0 m0 (hiM (v0, m0)) = true := e3
  simp only [e1, e4, e5]
  simp only [decide_true, cond_true, BEq.rfl, and_true, true_and, implies_true, true_implies, Bool.not_true, Bool.false_eq_true, Bool.true_eq_false, reduceCtorEq, false_implies, and_self]

theorem law19 (v0 : Hd) (m0 : Hd) : FnOK Try.prog 19 [.pr (.hd v0) (.hd m0)] (.b true) :=
  fn_ok (u := Lk.std) Try.func19 rfl (fns_cons plain60 ok60 (fns_cons plain76 (ok76 Lk.std) (fns_cons plain77 (ok77 Lk.std) (fns_cons plain78 (ok78 Lk.std) (fns_cons plain79 (ok79 Lk.std) (fns_cons plain59 (ok59 Lk.std) fns_nil)))))) rfl rfl (walk19 Lk.std v0 m0)

set_option maxRecDepth 100000 in
theorem walk23 (u : Lk) (h0 : Hd) (h1 : Hd) : Walk Try.f23 (Try.f23.body.getD .skip) [(60, yesS), (75, ofS u), (76, endsS u), (59, hasS u), (52, rightS u), (78, freeS u)] u [.hd h0, .hd h1] (.b true) := by
  intro L hL
  clear hL
  cbv
  obtain rfl := Lk.eq_std u
  simp only [Lk.std]
  have e1 := has_one h0 h1
  have e2 := right_one h0
  have e3 := free_one h0
  have e4 := lo_one h0
  have e5 := hi_one h0
  have e6 : (hasM h0 ones h1 = decide (h0 = h1)) = True := by rw [e1, eq_iff_iff, iff_true, Bool.eq_iff_iff]; simp
  simp only [e2, e3, e4, e5, e6]
  simp only [decide_true, cond_true, BEq.rfl, and_true, true_and, implies_true, true_implies, Bool.not_true, Bool.false_eq_true, Bool.true_eq_false, reduceCtorEq, false_implies, and_self]

theorem law23 (h0 : Hd) (h1 : Hd) : FnOK Try.prog 23 [.hd h0, .hd h1] (.b true) :=
  fn_ok (u := Lk.std) Try.func23 rfl (fns_cons plain60 ok60 (fns_cons plain75 (ok75 Lk.std) (fns_cons plain76 (ok76 Lk.std) (fns_cons plain59 (ok59 Lk.std) (fns_cons plain52 (ok52 Lk.std) (fns_cons plain78 (ok78 Lk.std) fns_nil)))))) rfl rfl (walk23 Lk.std h0 h1)


noncomputable def reg14_11 : Array Oper := ((regAt (Try.f14.body.getD .skip) 11).getD #[])
theorem drawn14_11 : drawT reg14_11 = true := by decide +kernel
noncomputable def reg14_15 : Array Oper := ((regAt (Try.f14.body.getD .skip) 15).getD #[])
theorem drawn14_15 : drawT reg14_15 = true := by decide +kernel
noncomputable def tab14 : Tab := [(11, ⟨reg14_11, drawn14_11⟩), (15, ⟨reg14_15, drawn14_15⟩)]
set_option maxRecDepth 100000 in
theorem walk14 (u : Lk) (v0 : Hd) (m0 : Hd) (n1 : Int) (b2 : Bool) (h3 : Hd) : WalkT tab14 5387515088748906836910336769951 Try.f14 (Try.f14.body.getD .skip) [(60, yesS), (63, fixS u), (64, looseS u), (65, splitS u), (57, setS u), (43, canonS u), (56, atS u), (59, hasS u)] u [.pr (.hd v0) (.hd m0), .i .i64 n1, .b b2, .hd h3] (.b true) := by
  intro L hL
  clear hL
  cbv
  obtain rfl := Lk.eq_std u
  simp only [Lk.std]
  have eself : ∀ a b, eqv (.pr (.hd a) (.hd b)) (.pr (.hd a) (.hd b)) = true := by intro a b; simp [eqv]
  by_cases hin : 0 ≤ n1 ∧ n1 < 104
  · obtain ⟨g0, g1⟩ := hin
    obtain ⟨n, rfl⟩ := Int.eq_ofNat_of_zero_le g0
    have hn : n < 104 := by omega
    have d1 : ((n : Int) < 0) = False := by rw [eq_iff_iff, iff_false]; omega
    have d2 : ((104 : Int) ≤ n) = False := by rw [eq_iff_iff, iff_false]; omega
    have a1 : ∀ b, rangeE3 (v0, m0) (n : Int) b = 0 := fun b => by simp only [rangeE3, in_nat hn, cond_true]
    have a2 : rangeE (v0, m0) (n : Int) = 0 := by simp only [rangeE, in_nat hn, cond_true]
    have a3 := fix_set (v0, m0) hn
    have a4 := loose_set (v0, m0) hn
    have a5 := at_free v0 m0 hn
    have a6 : bitM m0 (n : Int) = m0.getMsbD n := bit_nat m0 hn
    have z0 : splitZ (v0, m0) (n : Int) = bif m0.getMsbD n then (0, 0) else fixC (v0, m0) (n : Int) false := by simp only [splitZ, a6]
    have z1 : splitO (v0, m0) (n : Int) = bif m0.getMsbD n then (0, 0) else fixC (v0, m0) (n : Int) true := by simp only [splitO, a6]
    have z2 : splitE (v0, m0) (n : Int) = bif m0.getMsbD n then 3 else 0 := by simp only [splitE, a6, a2]
    have a7 : (atM v0 m0 (n : Int) = 2) = (m0.getMsbD n = false) := by
      rw [eq_iff_iff, ← beq_iff_eq, a5]; simp
    cases hm : m0.getMsbD n <;> cases b2 <;> simp only [d1, d2, a1, a2, a3, a4, a7, z0, z1, z2, hm, eself, cond_true, cond_false]
    iterate 2
      · have b0 := has_fix (v0, m0) hn false h3 hm
        have b1 := has_fix (v0, m0) hn true h3 hm
        rw [a3] at b0 b1
        simp only [cond_true, cond_false] at b0 b1
        have a8 : atM v0 m0 (n : Int) = 2 := by rw [a7]; exact hm
        simp only [b0, b1]
        cases hasM v0 m0 h3 <;> cases h3.getMsbD n <;> simp [a8]
    iterate 2
      · have a8 : ¬ atM v0 m0 (n : Int) = 2 := by rw [a7, hm]; simp
        simp [a8]
  · have hno : inM n1 = false := by
      unfold inM
      by_cases g0 : 0 ≤ n1
      · have : ¬ n1 < 104 := fun h => hin ⟨g0, h⟩
        simp [this]
      · simp [g0]
    have a1 : ∀ b, rangeE3 (v0, m0) n1 b = 3 := fun b => by simp only [rangeE3, hno, cond_false]
    have a2 : rangeE (v0, m0) n1 = 3 := by simp only [rangeE, hno, cond_false]
    have a3 : ∀ b, fixC (v0, m0) n1 b = (0, 0) := fun b => by simp only [fixC, hno, cond_false]
    have a4 : looseC (v0, m0) n1 = (0, 0) := by simp only [looseC, hno, cond_false]
    have a6 : bitM m0 n1 = false := by
      have : (decide (0 ≤ n1) && decide (n1 < 104)) = false := hno
      rw [bitM, this]; rfl
    have z0 : splitZ (v0, m0) n1 = (0, 0) := by simp only [splitZ, a3]; simp
    have z1 : splitO (v0, m0) n1 = (0, 0) := by simp only [splitO, a3]; simp
    have z2 : splitE (v0, m0) n1 = 3 := by simp only [splitE, a6, a2, cond_false]
    by_cases g0 : n1 < 0
    · have d1 : (n1 < 0) = True := by simpa using g0
      simp only [d1, a1, a2, a3, a4, z0, z1, z2, eself]
      simp
    · have d1 : (n1 < 0) = False := by simpa using g0
      have d2 : ((104 : Int) ≤ n1) = True := by rw [eq_iff_iff, iff_true]; omega
      simp only [d1, d2, a1, a2, a3, a4, z0, z1, z2, eself]
      simp

theorem law14 (v0 : Hd) (m0 : Hd) (n1 : Int) (b2 : Bool) (h3 : Hd) : FnOK Try.prog 14 [.pr (.hd v0) (.hd m0), .i .i64 n1, .b b2, .hd h3] (.b true) :=
  fn_okT (u := Lk.std) Try.func14 rfl (fns_cons plain60 ok60 (fns_cons plain63 (ok63 Lk.std) (fns_cons plain64 (ok64 Lk.std) (fns_cons plain65 (ok65 Lk.std) (fns_cons plain57 (ok57 Lk.std) (fns_cons plain43 (ok43 Lk.std) (fns_cons plain56 (ok56 Lk.std) (fns_cons plain59 (ok59 Lk.std) fns_nil)))))))) rfl rfl (walk14 Lk.std v0 m0 n1 b2 h3)

set_option maxRecDepth 100000 in
theorem walk20 (u : Lk) (v0 : Hd) (m0 : Hd) (s1 : ByteArray) : Walk Try.f20 (Try.f20.body.getD .skip) [(60, yesS), (80, textS u), (81, parseS u), (82, rparseS u), (83, textS u), (43, canonS u)] u [.pr (.hd v0) (.hd m0), .s s1] (.b true) := by
  intro L hL
  clear hL
  cbv
  obtain rfl := Lk.eq_std u
  simp only [Lk.std]
  have e1 := text_parse (v0, m0)
  have e2 := text_err (v0, m0)
  have e3 := parseC_eq s1
  have e4 := parseE_eq s1
  have e5 : ∀ a b, eqv (.pr (.hd a) (.hd b)) (.pr (.hd a) (.hd b)) = true := by intro a b; simp [eqv]
  simp only [e1, e2, e3, e4, e5]
  simp only [decide_true, cond_true, BEq.rfl, and_true, true_and, implies_true, true_implies, Bool.not_true, Bool.false_eq_true, Bool.true_eq_false, reduceCtorEq, false_implies, and_self]

theorem law20 (v0 : Hd) (m0 : Hd) (s1 : ByteArray) : FnOK Try.prog 20 [.pr (.hd v0) (.hd m0), .s s1] (.b true) :=
  fn_ok (u := Lk.std) Try.func20 rfl (fns_cons plain60 ok60 (fns_cons plain80 (ok80 Lk.std) (fns_cons plain81 (ok81 Lk.std) (fns_cons plain82 (ok82 Lk.std) (fns_cons plain83 (ok83 Lk.std) (fns_cons plain43 (ok43 Lk.std) fns_nil)))))) rfl rfl (walk20 Lk.std v0 m0 s1)

def hitsK (l : List Cu) (h : Hd) (k : Nat) : Int := (hits (l.take k) h : Int)
theorem hits_succ (l : List Cu) (h : Hd) (k : Nat) (hk : k < l.length) : hitsK l h (k + 1) = hitsK l h k + one (hasM l[k].1 l[k].2 h) := by
  unfold hitsK hits
  rw [List.take_succ_eq_append_getElem hk, List.countP_append]
  simp [List.countP_cons, one]
theorem hits_le (l : List Cu) (h : Hd) (k : Nat) : 0 ≤ hitsK l h k ∧ hitsK l h k ≤ k := by
  unfold hitsK hits
  have := List.countP_le_length (p := fun c : Cu => hasM c.1 c.2 h) (l := l.take k)
  have := List.length_take_le k l
  omega
theorem minusM_len (a b : Cu) : (minusM a b).length ≤ 104 := by
  unfold minusM
  cases meetOk (canonM a) (canonM b)
  · simp
  · exact minus_len a b 104


noncomputable def tab15 : Tab := []
set_option maxRecDepth 100000 in
theorem walk15 (u : Lk) (v0 : Hd) (m0 : Hd) (v1 : Hd) (m1 : Hd) (h2 : Hd) : WalkT tab15 275012655103 Try.f15 (Try.f15.body.getD .skip) [(60, yesS), (66, minusS u), (59, hasS u), (68, rminS u), (67, sameS u)] u [.pr (.hd v0) (.hd m0), .pr (.hd v1) (.hd m1), .hd h2] (.b true) := by
  intro L hL
  cbv
  refine (iff_of_eq (u.e3 _ _ _ _)).mpr ⟨fun hm => ?_, fun hm => ?_⟩
  · have hm : (!true) = true := (u.e1 not true).symm.trans hm
    cases hm
  clear hm
  refine hL Nat (fun k => k ≤ (minusM (v0, m0) (v1, m1)).length) (fun k => (minusM (v0, m0) (v1, m1)).length - k)
    (fun k => ⟨[(9, .i .i64 (lk1 u (fun (k : Nat) => (k : Int)) k)), (8, .i .i64 (lk3 u hitsK (lk2 u minusM (v0, m0) (v1, m1)) h2 k)), (7, .sl .cube (lk2 u minusM (v0, m0) (v1, m1))), (5, .p 5 [] 0), (4, .p 4 [] 0), (3, .p 3 [] 0)], [(5, .box 34 (.hd h2)), (4, .box 36 (.pr (.hd v1) (.hd m1))), (3, .box 36 (.pr (.hd v0) (.hd m0)))]⟩) _ _ _ 0 ?_ ?_ ?_ ?_
  · intro l st hk
    exact hk
  · simp
  · cbv
    all_goals (obtain rfl := Lk.eq_std u; try simp only [Lk.std])
    all_goals (repeat' first | exact trivial | rfl | refine ⟨?_, ?_⟩)
  · rintro k hk
    clear hL
    cbv
    obtain rfl := Lk.eq_std u
    simp only [Lk.std]
    have hlen := minusM_len (v0, m0) (v1, m1)
    refine ⟨fun hlt => ?_, fun hge => ?_⟩
    · have hlt : (k : Int) < (minusM (v0, m0) (v1, m1)).length := by simpa using hlt
      have hlt' : k < (minusM (v0, m0) (v1, m1)).length := by omega
      have hs := hits_succ (minusM (v0, m0) (v1, m1)) h2 k hlt'
      have hle := hits_le (minusM (v0, m0) (v1, m1)) h2 k
      have hat := atL_nat (minusM (v0, m0) (v1, m1)) k hlt'
      rw [wrap_succ k (by omega)]
      refine ⟨⟨⟨Int.natCast_nonneg k, hlt⟩, trivial⟩, fun hb => ?_, fun hb => ?_⟩
      · rw [show Int.ofNat k = ((k : Nat) : Int) from rfl, hat] at hb
        have hw : IntKind.i64.wrap (hitsK (minusM (v0, m0) (v1, m1)) h2 k + 1) = hitsK (minusM (v0, m0) (v1, m1)) h2 (k + 1) := by
          rw [wrap_i64 (by omega) (by omega), hs, hb]; rfl
        refine ⟨k + 1, by omega, by omega, ?_⟩
        simp only [lk1, lk2, lk3, hw]
        (repeat' first | exact trivial | rfl | refine ⟨?_, ?_⟩)
      · rw [show Int.ofNat k = ((k : Nat) : Int) from rfl, hat] at hb
        have hw : hitsK (minusM (v0, m0) (v1, m1)) h2 (k + 1) = hitsK (minusM (v0, m0) (v1, m1)) h2 k := by
          rw [hs, hb]; simp [one]
        refine ⟨k + 1, by omega, by omega, ?_⟩
        simp only [lk1, lk2, lk3, hw]
        (repeat' first | exact trivial | rfl | refine ⟨?_, ?_⟩)
    · have hge : ¬ (k : Int) < (minusM (v0, m0) (v1, m1)).length := by simpa using hge
      have hk' : k = (minusM (v0, m0) (v1, m1)).length := by omega
      subst hk'
      have e1 : hitsK (minusM (v0, m0) (v1, m1)) h2 (minusM (v0, m0) (v1, m1)).length = (one (hasM v0 m0 h2 && !hasM v1 m1 h2) : Int) := by
        rw [hitsK, List.take_length, minus_count]
      have e2 : rminM (v0, m0) (v1, m1) = minusM (v0, m0) (v1, m1) := minus_eq _ _
      have e3 : sameM (minusM (v0, m0) (v1, m1)) (minusM (v0, m0) (v1, m1)) = true := by simp [sameM]
      have e4 : shortL (minusM (v0, m0) (v1, m1)) := by unfold shortL; omega
      simp only [e1, e2, e3, e4]
      cases hasM v0 m0 h2 <;> cases hasM v1 m1 h2 <;> simp [one]

theorem law15 (v0 : Hd) (m0 : Hd) (v1 : Hd) (m1 : Hd) (h2 : Hd) : FnOK Try.prog 15 [.pr (.hd v0) (.hd m0), .pr (.hd v1) (.hd m1), .hd h2] (.b true) :=
  fn_okT (u := Lk.std) Try.func15 rfl (fns_cons plain60 ok60 (fns_cons plain66 (ok66 Lk.std) (fns_cons plain59 (ok59 Lk.std) (fns_cons plain68 (ok68 Lk.std) (fns_cons plain67 (ok67 Lk.std) fns_nil))))) rfl rfl (walk15 Lk.std v0 m0 v1 m1 h2)

end Mx
