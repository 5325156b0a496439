/- Layer 3: Apart of the reference, Outside in both. Own work. -/
import Derived.Test.YtlnofclfpcmneaaFt
namespace Mx
open Go Go.Proofs
theorem best_cond (k : Nat) (x : Bool) : (bif decide (Int.ofNat k = 0) then true else x) = (decide (k = 0) || x) := by
  cases k with
  | zero => rfl
  | succ k =>
    have h1 : decide (Int.ofNat (k + 1) = 0) = false := by rw [decide_eq_false_iff_not]; show ¬ ((k + 1 : Nat) : Int) = 0; omega
    have h2 : decide (k + 1 = 0) = false := by simp
    rw [h1, h2]; rfl
theorem best_yes {ps : List Cu} {k : Nat} (h : (decide (k = 0) || lessM (loM (atL .cube ps (k : Nat))) (bestK ps k)) = true) : bestK ps (k + 1) = loM (atL .cube ps (k : Nat)) := by simp only [bestK, h, cond_true]
theorem best_no {ps : List Cu} {k : Nat} (h : (decide (k = 0) || lessM (loM (atL .cube ps (k : Nat))) (bestK ps k)) = false) : bestK ps (k + 1) = bestK ps k := by simp only [bestK, h, cond_false]
theorem wrap_one (n : Nat) (h : n < 9223372036854775807) : IntKind.i64.wrap (((n : Nat) : Int) + 1) = ((n + 1 : Nat) : Int) := wrap_succ n h

noncomputable def reg98_7 : Array Oper := ((regAt (Try.f98.body.getD .skip) 7).getD #[])
theorem drawn98_7 : drawT reg98_7 = true := by decide +kernel
noncomputable def tab98 : Tab := [(7, ⟨reg98_7, drawn98_7⟩)]
set_option maxRecDepth 100000 in
theorem walk98 (u : Lk) (l0 : List Cu) (hq : lq1 u small l0) : WalkT tab98 8590197853 Try.f98 (Try.f98.body.getD .skip) [(62, meetS u)] u [.sl .cube l0] (.b (lk1 u apartL l0)) := by
  intro L hL
  cbv
  have hq' : l0.length ≤ 4611686018427387904 := by obtain rfl := Lk.eq_std u; exact hq
  refine hL Nat (fun k => k ≤ l0.length ∧ ∀ i p, i < k → i < p → p < l0.length → meetOk (atL .cube l0 (p : Nat)) (atL .cube l0 (i : Nat)) = false) (fun k => l0.length - k)
      (fun k => ⟨[(3, .i .i64 (lk1 u (fun (k : Nat) => (k : Int)) k)), (0, .sl .cube l0)], []⟩) _ _ _ 0 ?_ ?_ ?_ ?_
  · intro l st hk
    exact hk
  · exact ⟨by omega, fun i p hi => by omega⟩
  · cbv
    all_goals (obtain rfl := Lk.eq_std u; try simp only [Lk.std])
    all_goals (repeat' first | exact trivial | rfl | refine ⟨?_, ?_⟩)
  · rintro k ⟨hk, hall⟩
    cbv
    have hk : k ≤ l0.length := hk
    have hq' : l0.length ≤ 4611686018427387904 := hq'
    refine (iff_of_eq (u.e3 _ _ _ _)).mpr ⟨fun hr => ?_, fun hr => ?_⟩
    · have hkl : k < l0.length := by obtain rfl := Lk.eq_std u; exact nat_lt hr
      clear hr
      refine hL Nat (fun j => ∀ p, p < j → meetOk (atL .cube l0 ((k + 1 + p : Nat) : Int)) (atL .cube l0 (k : Nat)) = false) (fun j => l0.length - j)
          (fun j => ⟨[(4, .i .i64 (lk2 u (fun (k j : Nat) => ((k + 1 + j : Nat) : Int)) k j)), (3, .i .i64 (lk1 u (fun (k : Nat) => (k : Int)) k)), (0, .sl .cube l0)], []⟩) _ _ _ 0 ?_ ?_ ?_ ?_
      · intro l st hk
        exact hk
      · exact fun p hp => by omega
      · cbv
        all_goals (obtain rfl := Lk.eq_std u; simp only [Lk.std]; rw [wrap_succ k (by omega)])
        all_goals (repeat' first | exact trivial | rfl | refine ⟨?_, ?_⟩)
      · rintro j hjn
        clear hL
        cbv
        obtain rfl := Lk.eq_std u
        simp only [Lk.std]
        have hkl : k < l0.length := hkl
        have hq' : l0.length ≤ 4611686018427387904 := hq'
        refine ⟨fun hr => ?_, fun hr => ?_⟩
        · have hml : k + 1 + j < l0.length := nat_lt hr
          clear hr
          have hi' : ((0 : Int) ≤ Int.ofNat (k + 1 + j) ∧ Int.ofNat (k + 1 + j) < (l0.length : Int)) := idx_ok hml
          refine ⟨by (repeat' first | exact trivial | exact hi' | exact idx_ok hkl | refine ⟨?_, ?_⟩), fun hb => ?_, fun hb => ?_⟩
          · have hb : meetOk (atL .cube l0 (k : Nat)) (atL .cube l0 ((k + 1 + j : Nat) : Int)) = true := hb
            rw [meet_comm] at hb
            rw [apart_no hml (by omega) hb]
          · have hb : meetOk (atL .cube l0 (k : Nat)) (atL .cube l0 ((k + 1 + j : Nat) : Int)) = false := hb
            have hw : IntKind.i64.wrap (Int.ofNat (k + 1 + j) + 1) = ((k + 1 + (j + 1) : Nat) : Int) := wrap_succ (k + 1 + j) (by omega)
            refine ⟨j + 1, fun p hp => ?_, by omega, ?_⟩
            · by_cases hpj : p = j
              · rw [hpj, meet_comm]; exact hb
              · exact hjn p (by omega)
            · have hw' : IntKind.i64.wrap (((k + 1 + j : Nat) : Int) + 1) = ((k + 1 + (j + 1) : Nat) : Int) := hw
              simp only [lk1, lk2, lk3, hw, hw']
              (repeat' first | exact trivial | rfl | refine ⟨?_, ?_⟩)
        · have hml : l0.length ≤ k + 1 + j := nat_ge hr
          clear hr
          rw [wrap_succ k (by omega)]
          refine ⟨k + 1, ⟨by omega, fun i p hi hp hpl => ?_⟩, by omega, by (repeat' first | exact trivial | rfl | refine ⟨?_, ?_⟩)⟩
          by_cases hik : i = k
          · have := hjn (p - k - 1) (by omega)
            rw [show k + 1 + (p - k - 1) = p by omega] at this
            rw [hik]; exact this
          · exact hall i p (by omega) hp hpl
    · have hge : l0.length ≤ k := by obtain rfl := Lk.eq_std u; exact nat_ge hr
      clear hr
      obtain rfl := Lk.eq_std u
      simp only [Lk.std]
      rw [(apart_iff l0).2 fun i j hi hj => hall j i (by omega) hj hi]

theorem plain98 : Plainly Try.prog 98 := ⟨Try.f98, Try.func98, by kernel_rfl, by kernel_rfl⟩
theorem ok98 (u : Lk) : SpecOK Try.prog 98 (apartlS u) := fun args q r h hq => by
  obtain ⟨l0, rfl, rfl, rfl⟩ := apartlS_spec h
  exact fn_okT (u := u) Try.func98 rfl (fns_cons plain62 (ok62 u) fns_nil) rfl rfl (walk98 u l0 hq)

def outsideS (u : Lk) : Spec
  | [.pr (.hd v0) (.hd m0), .sl .cube l1, .i .i64 n2] => some (lq1 u tiny l1, (.tp (.hd (lk3 u outH (v0, m0) l1 n2)) (.tp (.b (lk3 u outB (v0, m0) l1 n2)) (.i .i64 (lk3 u outE (v0, m0) l1 n2)))))
  | _ => none
theorem outsideS_spec {u : Lk} {args : List SV} {q : Prop} {r : SV} (h : outsideS u args = some (q, r)) : ∃ v0 m0 l1 n2, args = [.pr (.hd v0) (.hd m0), .sl .cube l1, .i .i64 n2] ∧ r = (.tp (.hd (lk3 u outH (v0, m0) l1 n2)) (.tp (.b (lk3 u outB (v0, m0) l1 n2)) (.i .i64 (lk3 u outE (v0, m0) l1 n2)))) ∧ q = (lq1 u tiny l1) := by
  unfold outsideS at h
  split at h
  · simp only [Option.some.injEq, Prod.mk.injEq] at h
    exact ⟨_, _, _, _, rfl, h.2.symm, h.1.symm⟩
  · cases h

noncomputable def tab96 : Tab := []
set_option maxRecDepth 100000 in
theorem walk96 (u : Lk) (v0 : Hd) (m0 : Hd) (l1 : List Cu) (n2 : Int) (hq : lq1 u tiny l1) : WalkT tab96 8796160147407 Try.f96 (Try.f96.body.getD .skip) [(90, leftS u), (77, endsS u), (123, lessS u)] u [.pr (.hd v0) (.hd m0), .sl .cube l1, .i .i64 n2] (.tp (.hd (lk3 u outH (v0, m0) l1 n2)) (.tp (.b (lk3 u outB (v0, m0) l1 n2)) (.i .i64 (lk3 u outE (v0, m0) l1 n2)))) := by
  intro L hL
  cbv
  refine ⟨by obtain rfl := Lk.eq_std u; (repeat' first | exact trivial | exact hq | refine ⟨?_, ?_⟩), ?_⟩
  have hsm := left_small (v0, m0) l1 n2
  refine hL Nat (fun k => k ≤ (leftM (v0, m0) l1 n2).length) (fun k => (leftM (v0, m0) l1 n2).length - k)
      (fun k => ⟨[(12, .i .i64 (lk1 u (fun (k : Nat) => (k : Int)) k)), (11, .p 11 [] 0), (10, .i .i64 (lk3 u leftE (v0, m0) l1 n2)), (9, .sl .cube (lk3 u leftM (v0, m0) l1 n2)), (6, .p 6 [] 0)], [(11, .box 34 (.hd (lk2 u bestK (lk3 u leftM (v0, m0) l1 n2) k))), (6, .box 34 (.hd 0))]⟩) _ _ _ 0 ?_ ?_ ?_ ?_
  · intro l st hk
    exact hk
  · exact Nat.zero_le _
  · cbv
    all_goals (obtain rfl := Lk.eq_std u; try simp only [Lk.std])
    all_goals (repeat' first | exact trivial | rfl | refine ⟨?_, ?_⟩)
  · rintro k hk
    clear hL
    cbv
    obtain rfl := Lk.eq_std u
    simp only [Lk.std]
    have hk : k ≤ (leftM (v0, m0) l1 n2).length := hk
    have hsm : (leftM (v0, m0) l1 n2).length ≤ 1000 := hsm
    have ho : outH (v0, m0) l1 n2 = bestK (leftM (v0, m0) l1 n2) (leftM (v0, m0) l1 n2).length := rfl
    have ho2 : outB (v0, m0) l1 n2 = decide ((0 : Int) < ((leftM (v0, m0) l1 n2).length : Int)) := by
      unfold outB
      rw [Bool.eq_iff_iff, decide_eq_true_eq, decide_eq_true_eq]; omega
    have ho3 : outE (v0, m0) l1 n2 = leftE (v0, m0) l1 n2 := rfl
    rw [ho, ho2, ho3]
    simp only [lk1, lk2, lk3]
    generalize leftM (v0, m0) l1 n2 = ps at hk hsm ⊢
    refine ⟨fun hr => ?_, fun hr => ?_⟩
    · have hlt : k < ps.length := nat_lt hr
      clear hr
      rw [wrap_succ k (by omega)]
      refine ⟨by (repeat' first | exact trivial | exact idx_ok hlt | rfl | refine ⟨?_, ?_⟩), by simp, fun hb => ?_, fun hb => ?_⟩
      · have e := best_yes ((best_cond k _).symm.trans hb)
        refine ⟨k + 1, by omega, by omega, ?_⟩
        rw [e]
        (repeat' first | exact trivial | rfl | refine ⟨?_, ?_⟩)
      · have e := best_no ((best_cond k _).symm.trans hb)
        refine ⟨k + 1, by omega, by omega, ?_⟩
        rw [e]
        (repeat' first | exact trivial | rfl | refine ⟨?_, ?_⟩)
    · have hge : ps.length ≤ k := nat_ge hr
      obtain rfl : k = ps.length := by omega
      exact ⟨rfl, trivial, trivial⟩

theorem plain96 : Plainly Try.prog 96 := ⟨Try.f96, Try.func96, by kernel_rfl, by kernel_rfl⟩
theorem ok96 (u : Lk) : SpecOK Try.prog 96 (outsideS u) := fun args q r h hq => by
  obtain ⟨v0, m0, l1, n2, rfl, rfl, rfl⟩ := outsideS_spec h
  exact fn_okT (u := u) Try.func96 rfl (fns_cons plain90 (ok90 u) (fns_cons plain77 (ok77 u) (fns_cons plain123 (ok123 u) fns_nil))) rfl rfl (walk96 u v0 m0 l1 n2 hq)

noncomputable def tab95 : Tab := []
set_option maxRecDepth 100000 in
theorem walk95 (u : Lk) (v0 : Hd) (m0 : Hd) (l1 : List Cu) (n2 : Int) (hq : lq1 u tiny l1) : WalkT tab95 18047384932110287 Try.f95 (Try.f95.body.getD .skip) [(89, leftS u), (76, endsS u), (122, lessS u)] u [.pr (.hd v0) (.hd m0), .sl .cube l1, .i .i64 n2] (.tp (.hd (lk3 u outH (v0, m0) l1 n2)) (.tp (.b (lk3 u outB (v0, m0) l1 n2)) (.i .i64 (lk3 u outE (v0, m0) l1 n2)))) := by
  intro L hL
  cbv
  have hsm := left_small (v0, m0) l1 n2
  refine ⟨by obtain rfl := Lk.eq_std u; (repeat' first | exact trivial | exact hq | refine ⟨?_, ?_⟩), by obtain rfl := Lk.eq_std u; simp [Lk.std], ?_⟩
  refine (iff_of_eq (u.e3 _ _ _ _)).mpr ⟨fun hr => ?_, fun hr => ?_⟩
  · obtain rfl := Lk.eq_std u
    simp only [Lk.std] at hr ⊢
    have hl : leftM (v0, m0) l1 n2 = [] := by
      cases h : leftOk (v0, m0) l1 n2
      · exact leftM_no h
      · have he : leftE (v0, m0) l1 n2 = 0 := (left_yes h).2
        rw [he] at hr
        have : (leftM (v0, m0) l1 n2).length = 0 := by simpa using hr
        exact List.eq_nil_of_length_eq_zero this
    have e1 : outH (v0, m0) l1 n2 = 0 := by unfold outH; rw [hl]; rfl
    have e2 : outB (v0, m0) l1 n2 = false := by unfold outB; rw [hl]; rfl
    rw [e1, e2]
    (repeat' first | exact trivial | rfl | refine ⟨?_, ?_⟩)
  have hok : leftE (v0, m0) l1 n2 = 0 ∧ 0 < (leftM (v0, m0) l1 n2).length := by
    obtain rfl := Lk.eq_std u
    simp only [Lk.std] at hr
    cases h : leftOk (v0, m0) l1 n2
    · rw [(left_no h).2] at hr
      simp at hr
    · have he : leftE (v0, m0) l1 n2 = 0 := (left_yes h).2
      rw [he] at hr
      refine ⟨he, ?_⟩
      have : ¬ (leftM (v0, m0) l1 n2).length = 0 := by
        intro h0
        rw [h0] at hr
        simp at hr
      omega
  clear hr
  obtain ⟨he, hpos⟩ := hok
  have h0' : (0 : Int) ≤ 0 ∧ (0 : Int) < ((leftM (v0, m0) l1 n2).length : Int) := ⟨Int.le_refl _, by omega⟩
  have h1' : (0 : Int) ≤ 1 ∧ (1 : Int) ≤ ((leftM (v0, m0) l1 n2).length : Int) ∧ ((leftM (v0, m0) l1 n2).length : Int) ≤ ((leftM (v0, m0) l1 n2).length : Int) := ⟨by omega, by omega, by omega⟩
  refine ⟨by obtain rfl := Lk.eq_std u; (repeat' first | exact trivial | exact h0' | refine ⟨?_, ?_⟩), by obtain rfl := Lk.eq_std u; (repeat' first | exact trivial | exact h1' | refine ⟨?_, ?_⟩), ?_⟩
  refine hL Nat (fun j => j + 1 ≤ (leftM (v0, m0) l1 n2).length) (fun j => (leftM (v0, m0) l1 n2).length - j)
      (fun j => ⟨[(43, .i .i64 (lk1 u (fun (k : Nat) => (k : Int)) j)), (42, .i .i64 (lk3 u (fun c l m => ((((leftM c l m).take (leftM c l m).length).drop 1).length : Int)) (v0, m0) l1 n2)), (41, .sl .cube (lk3 u (fun c l m => ((leftM c l m).take (leftM c l m).length).drop 1) (v0, m0) l1 n2)), (11, .p 11 [] 0), (6, .p 6 [] 0)], [(11, .box 34 (.hd (lk3 u (fun c l (q : Int × Nat) => bestK (leftM c l q.1) (q.2 + 1)) (v0, m0) l1 (n2, j)))), (6, .box 34 (.hd 0))]⟩) _ _ _ 0 ?_ ?_ ?_ ?_
  · intro l st hk
    exact hk
  · omega
  · cbv
    all_goals (obtain rfl := Lk.eq_std u; try simp only [Lk.std])
    all_goals (repeat' first | exact trivial | rfl | refine ⟨?_, ?_⟩)
  · rintro j hj
    clear hL
    cbv
    obtain rfl := Lk.eq_std u
    simp only [Lk.std]
    have hj : j + 1 ≤ (leftM (v0, m0) l1 n2).length := hj
    have hsm : (leftM (v0, m0) l1 n2).length ≤ 1000 := hsm
    have hpos : 0 < (leftM (v0, m0) l1 n2).length := hpos
    have ho : outH (v0, m0) l1 n2 = bestK (leftM (v0, m0) l1 n2) (leftM (v0, m0) l1 n2).length := rfl
    have ho2 : outB (v0, m0) l1 n2 = true := decide_eq_true hpos
    have ho3 : outE (v0, m0) l1 n2 = 0 := he
    rw [ho, ho2, ho3]
    simp only [lk1, lk2, lk3]
    generalize leftM (v0, m0) l1 n2 = ps at hj hsm hpos ⊢
    have htl : ((ps.take ps.length).drop 1).length = ps.length - 1 := by rw [List.take_length, List.length_drop]
    refine ⟨fun hr => ?_, fun hr => ?_⟩
    · have hml : j < ((ps.take ps.length).drop 1).length := nat_lt hr
      clear hr
      have hg : atL .cube ((ps.take ps.length).drop 1) (Int.ofNat j) = atL .cube ps ((j + 1 : Nat) : Int) := by
        show ((ps.take ps.length).drop 1).getD j _ = ps.getD (j + 1) _
        rw [List.take_length, List.getD_eq_getElem?_getD, List.getD_eq_getElem?_getD, List.getElem?_drop, Nat.add_comm 1 j]
      have hi' : ((0 : Int) ≤ Int.ofNat j ∧ Int.ofNat j < (((ps.take ps.length).drop 1).length : Int)) := idx_ok hml
      have hz : decide (j + 1 = 0) = false := by simp
      rw [wrap_succ j (by omega)]
      simp only [hg]
      refine ⟨by (repeat' first | exact trivial | exact hi' | refine ⟨?_, ?_⟩), fun hb => ?_, fun hb => ?_⟩
      · have e := best_yes (ps := ps) (k := j + 1) (by rw [hz, Bool.false_or]; exact hb)
        refine ⟨j + 1, by omega, by omega, ?_⟩
        rw [e]
        (repeat' first | exact trivial | rfl | refine ⟨?_, ?_⟩)
      · have e := best_no (ps := ps) (k := j + 1) (by rw [hz, Bool.false_or]; exact hb)
        refine ⟨j + 1, by omega, by omega, ?_⟩
        rw [e]
        (repeat' first | exact trivial | rfl | refine ⟨?_, ?_⟩)
    · have hml : ((ps.take ps.length).drop 1).length ≤ j := nat_ge hr
      clear hr
      have : j + 1 = ps.length := by omega
      rw [this]
      (repeat' first | exact trivial | rfl | refine ⟨?_, ?_⟩)

theorem plain95 : Plainly Try.prog 95 := ⟨Try.f95, Try.func95, by kernel_rfl, by kernel_rfl⟩
theorem ok95 (u : Lk) : SpecOK Try.prog 95 (outsideS u) := fun args q r h hq => by
  obtain ⟨v0, m0, l1, n2, rfl, rfl, rfl⟩ := outsideS_spec h
  exact fn_okT (u := u) Try.func95 rfl (fns_cons plain89 (ok89 u) (fns_cons plain76 (ok76 u) (fns_cons plain122 (ok122 u) fns_nil))) rfl rfl (walk95 u v0 m0 l1 n2 hq)

end Mx
