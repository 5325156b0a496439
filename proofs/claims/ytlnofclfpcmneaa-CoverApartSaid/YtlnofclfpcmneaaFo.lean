/- Around: About. Own work. -/
import Derived.Test.YtlnofclfpcmneaaPe
namespace Mx
open Go Go.Proofs
def aboutS (u : Lk) : Spec
  | [.sl .rule l0, .hd h1] => some (lq1 u small l0, (.tp (.pr (.hd (lk2 u (fun x0 x1 => (aboutC x0 x1).1) l0 h1)) (.hd (lk2 u (fun x0 x1 => (aboutC x0 x1).2) l0 h1))) (.tp (.i .i64 (lk2 u aboutA l0 h1)) (.b (lk2 u lookB l0 h1)))))
  | _ => none
theorem aboutS_spec {u : Lk} {args : List SV} {q : Prop} {r : SV} (h : aboutS u args = some (q, r)) : ∃ l0 h1, args = [.sl .rule l0, .hd h1] ∧ r = (.tp (.pr (.hd (lk2 u (fun x0 x1 => (aboutC x0 x1).1) l0 h1)) (.hd (lk2 u (fun x0 x1 => (aboutC x0 x1).2) l0 h1))) (.tp (.i .i64 (lk2 u aboutA l0 h1)) (.b (lk2 u lookB l0 h1)))) ∧ q = (lq1 u small l0) := by
  unfold aboutS at h
  split at h
  · simp only [Option.some.injEq, Prod.mk.injEq] at h
    exact ⟨_, _, rfl, h.2.symm, h.1.symm⟩
  · cases h

noncomputable def reg50_32 : Array Oper := ((regAt (Try.f50.body.getD .skip) 32).getD #[])
theorem drawn50_32 : drawT reg50_32 = true := by decide +kernel
noncomputable def tab50 : Tab := [(32, ⟨reg50_32, drawn50_32⟩)]
set_option maxRecDepth 100000 in
theorem walk50 (u : Lk) (l0 : List Ru) (h1 : Hd) (hq : lq1 u small l0) : WalkT tab50 10159776321154508926173544951803 Try.f50 (Try.f50.body.getD .skip) [(59, hasS u), (73, canonS u), (61, meetS u), (106, apartS u), (107, bitS u), (64, looseS u)] u [.sl .rule l0, .hd h1] (.tp (.pr (.hd (lk2 u (fun x0 x1 => (aboutC x0 x1).1) l0 h1)) (.hd (lk2 u (fun x0 x1 => (aboutC x0 x1).2) l0 h1))) (.tp (.i .i64 (lk2 u aboutA l0 h1)) (.b (lk2 u lookB l0 h1)))) := by
  intro L hL
  cbv
  refine hL Nat (fun k => k ≤ l0.length ∧ ∀ j (hj : j < k) (hl : j < l0.length), hasR h1 l0[j] = false) (fun k => l0.length - k)
    (fun k => ⟨[(25, .i .i64 (lk1 u (fun (k : Nat) => (k : Int)) k)), (24, .i .i64 (lk1 u (fun l : List Ru => (l.length : Int)) l0)), (23, .sl .rule l0), (7, .i .i64 (-1)), (4, .p 4 [] 0), (3, .p 3 [] 0), (0, .sl .rule l0)], [(4, .box 36 (.pr (.hd 0) (.hd 0))), (3, .box 34 (.hd h1))]⟩) _ _ _ 0 ?_ ?_ ?_ ?_
  · intro l st hk
    exact hk
  · exact ⟨by simp, fun j hj => by omega⟩
  · cbv
    all_goals (obtain rfl := Lk.eq_std u; try simp only [Lk.std])
    all_goals (repeat' first | exact trivial | rfl | refine ⟨?_, ?_⟩)
  · rintro n ⟨hk, hj⟩
    cbv
    have hq' : l0.length ≤ 4611686018427387904 := by obtain rfl := Lk.eq_std u; exact hq
    refine (iff_of_eq (u.e3 _ _ _ _)).mpr ⟨fun hr => ?_, fun hr => ?_⟩
    · have hlt : n < l0.length := by obtain rfl := Lk.eq_std u; exact nat_lt hr
      clear hr
      refine ⟨by (obtain rfl := Lk.eq_std u; simp only [Lk.std]; (repeat' first | exact trivial | exact idx_ok hlt | rfl | refine ⟨?_, ?_⟩)), ?_⟩
      refine (iff_of_eq (u.e3 _ _ _ _)).mpr ⟨fun hr => ?_, fun hr => ?_⟩
      · have hb : hasR h1 l0[n] = true := by
          obtain rfl := Lk.eq_std u
          rw [← hr]
          show _ = hasR h1 (atL .rule l0 (Int.ofNat n))
          rw [at_get .rule l0 n hlt]
        clear hr
        have e : firstN l0 h1 = n := first_lt hlt hb fun j hj' => hj j hj' (by omega)
        refine (iff_of_eq (u.e3 _ _ _ _)).mpr ⟨fun hr => ?_, fun hr => ?_⟩
        · obtain rfl := Lk.eq_std u
          have : ((n : Nat) : Int) < 0 := of_decide_eq_true hr
          omega
        clear hr
        refine ⟨by (obtain rfl := Lk.eq_std u; simp only [Lk.std]; (repeat' first | exact trivial | exact idx_ok hlt | rfl | refine ⟨?_, ?_⟩)), by obtain rfl := Lk.eq_std u; exact ⟨⟨⟨by omega, Int.natCast_nonneg n, by show (n : Int) ≤ l0.length; omega⟩, trivial⟩, trivial⟩, ?_⟩
        refine hL Nat (fun j => j ≤ n) (fun j => n - j)
            (fun j => ⟨[(50, .i .i64 (lk1 u (fun (k : Nat) => (k : Int)) j)), (49, .i .i64 (lk2 u (fun (l : List Ru) (n : Nat) => (((l.take n).drop 0).length : Int)) l0 n)), (48, .sl .rule (lk2 u (fun (l : List Ru) (n : Nat) => (l.take n).drop 0) l0 n)), (11, .p 11 [] 0), (10, .p 10 [] 0), (7, .i .i64 (lk1 u (fun (k : Nat) => (k : Int)) n)), (4, .p 4 [] 0), (3, .p 3 [] 0), (0, .sl .rule l0)], [(11, .box 36 (.pr (.hd (lk3 u (fun l h (q : Nat × Nat) => (fixK l h (wholeM l q.1) q.2).1) l0 h1 (n, j))) (.hd (lk3 u (fun l h (q : Nat × Nat) => (fixK l h (wholeM l q.1) q.2).2) l0 h1 (n, j))))), (10, .box 36 (.pr (.hd (lk2 u (fun l (n : Nat) => (wholeM l n).1) l0 n)) (.hd (lk2 u (fun l (n : Nat) => (wholeM l n).2) l0 n)))), (4, .box 36 (.pr (.hd 0) (.hd 0))), (3, .box 34 (.hd h1))]⟩) _ _ _ 0 ?_ ?_ ?_ ?_
        · intro l st hk
          exact hk
        · simp
        · cbv
          all_goals (obtain rfl := Lk.eq_std u; try simp only [Lk.std])
          all_goals (repeat' first | exact trivial | rfl | refine ⟨?_, ?_⟩)
        · rintro j hj'
          cbv
          refine (iff_of_eq (u.e3 _ _ _ _)).mpr ⟨fun hr => ?_, fun hr => ?_⟩
          · obtain rfl := Lk.eq_std u
            simp only [Lk.std]
            have hlt := nat_lt hr
            have hjn : j < n := by have := take_len (l := l0) (n := n) (by omega); omega
            have hg := take_get (l := l0) (k := j) (n := n) hjn (by omega)
            have hs : fixK l0 h1 (wholeM l0 n) (j + 1) = stepA (fixK l0 h1 (wholeM l0 n) j) (atL .rule l0 (j : Nat)).2.1 h1 := rfl
            have hi : ((0 : Int) ≤ Int.ofNat j ∧ Int.ofNat j < (((l0.take n).drop 0).length : Int)) := idx_ok hlt
            rw [wrap_succ j (by omega)]
            refine ⟨by (repeat' first | exact trivial | exact hi | refine ⟨?_, ?_⟩), fun hm => ?_, fun hm => ?_⟩
            · have e2 : fixK l0 h1 (wholeM l0 n) (j + 1) = apartM (fixK l0 h1 (wholeM l0 n) j) (atL .rule ((l0.take n).drop 0) (j : Nat)).2.1 h1 := by
                rw [hs, stepA, ← hg]
                have : meetOk (fixK l0 h1 (wholeM l0 n) j) (atL .rule ((l0.take n).drop 0) (j : Nat)).2.1 = true := hm
                rw [this, cond_true]
              refine ⟨j + 1, by omega, by omega, ?_⟩
              simp only [lk1, lk2, lk3, e2]
              (repeat' first | exact trivial | rfl | refine ⟨?_, ?_⟩)
            · have e2 : fixK l0 h1 (wholeM l0 n) (j + 1) = fixK l0 h1 (wholeM l0 n) j := by
                rw [hs, stepA, ← hg]
                have : meetOk (fixK l0 h1 (wholeM l0 n) j) (atL .rule ((l0.take n).drop 0) (j : Nat)).2.1 = false := hm
                rw [this, cond_false]
              refine ⟨j + 1, by omega, by omega, ?_⟩
              simp only [lk1, lk2, lk3, e2]
              (repeat' first | exact trivial | rfl | refine ⟨?_, ?_⟩)
          · have hjn : n = j := by
              obtain rfl := Lk.eq_std u
              have := nat_ge hr
              rw [take_len (by omega)] at this
              omega
            clear hr
            subst hjn
            refine hL Nat (fun i => i ≤ 104) (fun i => 104 - i)
                (fun i => ⟨[(68, .i .i64 (lk1 u (fun (k : Nat) => (k : Int)) i)), (11, .p 11 [] 0), (10, .p 10 [] 0), (7, .i .i64 (lk1 u (fun (k : Nat) => (k : Int)) n)), (4, .p 4 [] 0), (3, .p 3 [] 0), (0, .sl .rule l0)], [(11, .box 36 (.pr (.hd (lk3 u (fun l h (q : Nat × Nat) => (freeK (l.take q.1) (wholeM l q.1) (fixK l h (wholeM l q.1) q.1) q.2).1) l0 h1 (n, i))) (.hd (lk3 u (fun l h (q : Nat × Nat) => (freeK (l.take q.1) (wholeM l q.1) (fixK l h (wholeM l q.1) q.1) q.2).2) l0 h1 (n, i))))), (10, .box 36 (.pr (.hd (lk2 u (fun l (n : Nat) => (wholeM l n).1) l0 n)) (.hd (lk2 u (fun l (n : Nat) => (wholeM l n).2) l0 n)))), (4, .box 36 (.pr (.hd 0) (.hd 0))), (3, .box 34 (.hd h1))]⟩) _ _ _ 0 ?_ ?_ ?_ ?_
            · intro l st hk
              exact hk
            · simp
            · cbv
              all_goals (obtain rfl := Lk.eq_std u; try simp only [Lk.std])
              all_goals (repeat' first | exact trivial | rfl | refine ⟨?_, ?_⟩)
            · rintro i hi
              cbv
              refine (iff_of_eq (u.e3 _ _ _ _)).mpr ⟨fun hr => ?_, fun hr => ?_⟩
              · have hlt : i < 104 := by obtain rfl := Lk.eq_std u; exact num_lt hr
                clear hr
                refine ⟨by obtain rfl := Lk.eq_std u; simp [Lk.std], ?_⟩
                refine (iff_of_eq (u.e3 _ _ _ _)).mpr ⟨fun hr => ?_, fun hr => ?_⟩
                · obtain rfl := Lk.eq_std u
                  have h0 : (!bitM (freeK (l0.take n) (wholeM l0 n) (fixK l0 h1 (wholeM l0 n) n) i).2 (i : Nat) || bitM (wholeM l0 n).2 (i : Nat)) = true := by
                    have hr : (bif !bitM (freeK (l0.take n) (wholeM l0 n) (fixK l0 h1 (wholeM l0 n) n) i).2 (i : Nat) then true else bitM (wholeM l0 n).2 (i : Nat)) = true := hr
                    rw [← hr]
                    cases bitM (freeK (l0.take n) (wholeM l0 n) (fixK l0 h1 (wholeM l0 n) n) i).2 (i : Nat) <;> rfl
                  have e2 := free_skip h0
                  simp only [Lk.std]
                  rw [wrap_succ i (by omega)]
                  refine ⟨i + 1, by omega, by omega, ?_⟩
                  simp only [lk1, lk2, lk3, e2]
                  (repeat' first | exact trivial | rfl | refine ⟨?_, ?_⟩)
                · have h0 : (!bitM (freeK (l0.take n) (wholeM l0 n) (fixK l0 h1 (wholeM l0 n) n) i).2 (i : Nat) || bitM (wholeM l0 n).2 (i : Nat)) = false := by
                    obtain rfl := Lk.eq_std u
                    have hr : (bif !bitM (freeK (l0.take n) (wholeM l0 n) (fixK l0 h1 (wholeM l0 n) n) i).2 (i : Nat) then true else bitM (wholeM l0 n).2 (i : Nat)) = false := hr
                    rw [← hr]
                    cases bitM (freeK (l0.take n) (wholeM l0 n) (fixK l0 h1 (wholeM l0 n) n) i).2 (i : Nat) <;> rfl
                  clear hr
                  refine ⟨by obtain rfl := Lk.eq_std u; exact ⟨⟨⟨by omega, Int.natCast_nonneg n, by show (n : Int) ≤ l0.length; omega⟩, trivial⟩, trivial⟩, ?_⟩
                  refine hL Nat (fun m => m ≤ n ∧ ∀ p, p < m → meetOk (looseC (freeK (l0.take n) (wholeM l0 n) (fixK l0 h1 (wholeM l0 n) n) i) (i : Nat)) (atL .rule l0 (p : Nat)).2.1 = false) (fun m => n - m)
                      (fun m => ⟨[(92, .i .i64 (lk1 u (fun (k : Nat) => (k : Int)) m)), (91, .i .i64 (lk2 u (fun (l : List Ru) (n : Nat) => (((l.take n).drop 0).length : Int)) l0 n)), (90, .sl .rule (lk2 u (fun (l : List Ru) (n : Nat) => (l.take n).drop 0) l0 n)), (17, .p 17 [] 0), (68, .i .i64 (lk1 u (fun (k : Nat) => (k : Int)) i)), (11, .p 11 [] 0), (10, .p 10 [] 0), (7, .i .i64 (lk1 u (fun (k : Nat) => (k : Int)) n)), (4, .p 4 [] 0), (3, .p 3 [] 0), (0, .sl .rule l0)], [(17, .box 36 (.pr (.hd (lk3 u (fun l h (q : Nat × Nat) => (looseC (freeK (l.take q.1) (wholeM l q.1) (fixK l h (wholeM l q.1) q.1) q.2) (q.2 : Nat)).1) l0 h1 (n, i))) (.hd (lk3 u (fun l h (q : Nat × Nat) => (looseC (freeK (l.take q.1) (wholeM l q.1) (fixK l h (wholeM l q.1) q.1) q.2) (q.2 : Nat)).2) l0 h1 (n, i))))), (11, .box 36 (.pr (.hd (lk3 u (fun l h (q : Nat × Nat) => (freeK (l.take q.1) (wholeM l q.1) (fixK l h (wholeM l q.1) q.1) q.2).1) l0 h1 (n, i))) (.hd (lk3 u (fun l h (q : Nat × Nat) => (freeK (l.take q.1) (wholeM l q.1) (fixK l h (wholeM l q.1) q.1) q.2).2) l0 h1 (n, i))))), (10, .box 36 (.pr (.hd (lk2 u (fun l (n : Nat) => (wholeM l n).1) l0 n)) (.hd (lk2 u (fun l (n : Nat) => (wholeM l n).2) l0 n)))), (4, .box 36 (.pr (.hd 0) (.hd 0))), (3, .box 34 (.hd h1))]⟩) _ _ _ 0 ?_ ?_ ?_ ?_
                  · intro l st hk
                    exact hk
                  · exact ⟨by omega, fun p hp => by omega⟩
                  · cbv
                    all_goals (obtain rfl := Lk.eq_std u; try simp only [Lk.std])
                    all_goals (repeat' first | exact trivial | rfl | refine ⟨?_, ?_⟩)
                  · rintro m ⟨hm, hjm⟩
                    clear hL
                    cbv
                    obtain rfl := Lk.eq_std u
                    simp only [Lk.std]
                    refine ⟨fun hr => ?_, fun hr => ?_⟩
                    · have hml := nat_lt hr
                      clear hr
                      have hmn : m < n := by have := take_len (l := l0) (n := n) (by omega); omega
                      have hg := take_get (l := l0) (k := m) (n := n) hmn (by omega)
                      have hi' : ((0 : Int) ≤ Int.ofNat m ∧ Int.ofNat m < (((l0.take n).drop 0).length : Int)) := idx_ok hml
                      rw [wrap_succ m (by omega), wrap_succ i (by omega)]
                      refine ⟨by (repeat' first | exact trivial | exact hi' | refine ⟨?_, ?_⟩), fun hb => ?_, fun hb => ?_⟩
                      · have hb : meetOk (looseC (freeK (l0.take n) (wholeM l0 n) (fixK l0 h1 (wholeM l0 n) n) i) (i : Nat)) (atL .rule ((l0.take n).drop 0) (m : Nat)).2.1 = true := hb
                        rw [hg] at hb
                        have e2 := free_no (by omega) hmn hb
                        refine ⟨i + 1, by omega, by omega, ?_⟩
                        simp only [lk1, lk2, lk3, e2]
                        (repeat' first | exact trivial | rfl | refine ⟨?_, ?_⟩)
                      · have hb : meetOk (looseC (freeK (l0.take n) (wholeM l0 n) (fixK l0 h1 (wholeM l0 n) n) i) (i : Nat)) (atL .rule ((l0.take n).drop 0) (m : Nat)).2.1 = false := hb
                        rw [hg] at hb
                        refine ⟨m + 1, ⟨by omega, fun p hp => ?_⟩, by omega, by (repeat' first | exact trivial | rfl | refine ⟨?_, ?_⟩)⟩
                        by_cases hpm : p = m
                        · rw [hpm]; exact hb
                        · exact hjm p (by omega)
                    · have hml := nat_ge hr
                      clear hr
                      rw [take_len (by omega)] at hml
                      have e2 := free_yes (by omega) h0 fun p hp => hjm p (by omega)
                      rw [wrap_succ i (by omega)]
                      refine ⟨i + 1, by omega, by omega, ?_⟩
                      simp only [lk1, lk2, lk3, e2]
                      (repeat' first | exact trivial | rfl | refine ⟨?_, ?_⟩)
              · have hge : 104 ≤ i := by obtain rfl := Lk.eq_std u; exact num_ge hr
                clear hr
                obtain rfl : i = 104 := by omega
                obtain rfl := Lk.eq_std u
                simp only [Lk.std]
                have h2 : lookB l0 h1 = true := by unfold lookB; rw [e]; simpa using hlt
                have h3 : aboutC l0 h1 = freeK (l0.take n) (wholeM l0 n) (fixK l0 h1 (wholeM l0 n) n) 104 := by unfold aboutC; rw [h2, e]; rfl
                have h4 : aboutA l0 h1 = (atL .rule l0 (n : Nat)).2.2 := by unfold aboutA; rw [h2, e]; rfl
                rw [h2, h3, h4]
                (repeat' first | exact trivial | exact idx_ok hlt | rfl | refine ⟨?_, ?_⟩)
      · obtain rfl := Lk.eq_std u
        simp only [Lk.std]
        have hb : hasR h1 l0[n] = false := by
          rw [← hr]
          show _ = hasR h1 (atL .rule l0 (Int.ofNat n))
          rw [at_get .rule l0 n hlt]
        rw [wrap_succ n (by omega)]
        refine ⟨n + 1, ⟨by omega, fun j hj' hl => ?_⟩, by omega, by (repeat' first | exact trivial | rfl | refine ⟨?_, ?_⟩)⟩
        by_cases hjk : j = n
        · subst hjk; exact hb
        · exact hj j (by omega) hl
    · obtain rfl := Lk.eq_std u
      have hge := nat_ge hr
      simp only [Lk.std]
      have e : firstN l0 h1 = l0.length := find_none fun j hj' => hj j (by omega) hj'
      have h2 : lookB l0 h1 = false := by unfold lookB; rw [e]; simp
      have h3 : aboutC l0 h1 = (0, 0) := by unfold aboutC; rw [h2]; rfl
      have h4 : aboutA l0 h1 = 0 := by unfold aboutA; rw [h2]; rfl
      rw [h2, h3, h4]
      simp

theorem plain50 : Plainly Try.prog 50 := ⟨Try.f50, Try.func50, by kernel_rfl, by kernel_rfl⟩
theorem ok50 (u : Lk) : SpecOK Try.prog 50 (aboutS u) := fun args q r h hq => by
  obtain ⟨l0, h1, rfl, rfl, rfl⟩ := aboutS_spec h
  exact fn_okT (u := u) Try.func50 rfl (fns_cons plain59 (ok59 u) (fns_cons plain73 (ok73 u) (fns_cons plain61 (ok61 u) (fns_cons plain106 (ok106 u) (fns_cons plain107 (ok107 u) (fns_cons plain64 (ok64 u) fns_nil)))))) rfl rfl (walk50 u l0 h1 hq)

end Mx
