/- Layer 3: Left of the reference, Covers, Outside. Own work. -/
import Derived.Test.YtlnofclfpcmneaaFr
namespace Mx
open Go Go.Proofs
def rmk (c : Cu) (l : List Cu) (q : Nat × Nat) : List Cu := rminM (atL .cube (leftK c l q.1) (q.2 : Nat)) (atL .cube l (q.1 : Nat))
def accK (c : Cu) (l : List Cu) (q : Nat × Nat) : Nat → List Cu
  | 0 => partK c l q.1 q.2
  | i + 1 => accK c l q i ++ [atL .cube (rmk c l q) (i : Nat)]
theorem acc_eq (c : Cu) (l : List Cu) (q : Nat × Nat) : ∀ i, i ≤ (rmk c l q).length → accK c l q i = partK c l q.1 q.2 ++ (rmk c l q).take i
  | 0, _ => by simp [accK]
  | i + 1, h => by
    rw [accK, acc_eq c l q i (by omega), List.append_assoc, List.take_succ_eq_append_getElem (by omega)]
    rw [show atL .cube (rmk c l q) ((i : Nat) : Int) = (rmk c l q)[i] from at_get .cube _ i (by omega)]
theorem rmk_eq (c : Cu) (l : List Cu) {k j : Nat} (hj : j < (leftK c l k).length) : rmk c l (k, j) = minusM (leftK c l k)[j] (atL .cube l (k : Nat)) := by
  unfold rmk
  rw [minus_eq]
  show minusM (atL .cube (leftK c l k) ((j : Nat) : Int)) _ = _
  rw [show atL .cube (leftK c l k) ((j : Nat) : Int) = (leftK c l k)[j] from at_get .cube _ j hj]
theorem acc_all (c : Cu) (l : List Cu) {k j : Nat} (hj : j < (leftK c l k).length) : accK c l (k, j) (rmk c l (k, j)).length = partK c l k (j + 1) := by
  rw [acc_eq c l (k, j) _ (Nat.le_refl _), List.take_length, rmk_eq c l hj, part_succ c l k j hj]
theorem acc_len (c : Cu) (l : List Cu) (q : Nat × Nat) : ∀ i, (accK c l q i).length = (partK c l q.1 q.2).length + i
  | 0 => rfl
  | i + 1 => by rw [accK, List.length_append, acc_len c l q i]; simp; omega

noncomputable def reg90_12 : Array Oper := ((regAt (Try.f90.body.getD .skip) 12).getD #[])
theorem drawn90_12 : drawT reg90_12 = true := by decide +kernel
noncomputable def tab90 : Tab := [(12, ⟨reg90_12, drawn90_12⟩)]
set_option maxRecDepth 100000 in
theorem walk90 (u : Lk) (v0 : Hd) (m0 : Hd) (l1 : List Cu) (n2 : Int) (hq : lq1 u tiny l1) : WalkT tab90 2306124492851658703 Try.f90 (Try.f90.body.getD .skip) [(119, boundS u), (43, canonS u), (68, rminS u)] u [.pr (.hd v0) (.hd m0), .sl .cube l1, .i .i64 n2] (.tp (.sl .cube (lk3 u leftM (v0, m0) l1 n2)) (.i .i64 (lk3 u leftE (v0, m0) l1 n2))) := by
  intro L hL
  cbv
  have hbr := bound_range n2
  have hq' : l1.length ≤ 1000000 := by obtain rfl := Lk.eq_std u; exact hq
  refine (iff_of_eq (u.e3 _ _ _ _)).mpr ⟨fun hr => ?_, fun hr => ?_⟩
  · obtain rfl := Lk.eq_std u
    simp only [Lk.std] at hr ⊢
    have hr : boundM n2 < 1 := by simpa using hr
    obtain ⟨e1, e2⟩ := left_no (left_zero (c := (v0, m0)) (l := l1) (m := n2) hr)
    rw [e1, e2]
    (repeat' first | exact trivial | rfl | refine ⟨?_, ?_⟩)
  have h1 : 1 ≤ boundM n2 := by
    obtain rfl := Lk.eq_std u
    have hr : decide (boundM n2 < (([((canonM (v0, m0)).1, (canonM (v0, m0)).2)] : List Cu).length : Int)) = false := hr
    simp at hr
    omega
  clear hr
  refine hL Nat (fun k => k ≤ l1.length ∧ ∀ i, i < k → ((leftK (v0, m0) l1 (i + 1)).length : Int) ≤ boundM n2) (fun k => l1.length - k)
      (fun k => ⟨[(9, .i .i64 (lk1 u (fun (k : Nat) => (k : Int)) k)), (8, .sl .cube (lk3 u (fun c l (k : Nat) => leftK c l k) (v0, m0) l1 k)), (2, .i .i64 (lk1 u boundM n2)), (1, .sl .cube l1)], []⟩) _ _ _ 0 ?_ ?_ ?_ ?_
  · intro l st hk
    exact hk
  · exact ⟨by omega, fun i hi => by omega⟩
  · cbv
    all_goals (obtain rfl := Lk.eq_std u; try simp only [Lk.std])
    all_goals (repeat' first | exact trivial | rfl | refine ⟨?_, ?_⟩)
  · rintro k ⟨hk, hall⟩
    cbv
    have hk : k ≤ l1.length := hk
    have hq' : l1.length ≤ 1000000 := hq'
    have hbr : 0 ≤ boundM n2 ∧ boundM n2 ≤ 1000 := hbr
    refine (iff_of_eq (u.e3 _ _ _ _)).mpr ⟨fun hr => ?_, fun hr => ?_⟩
    · have hkl : k < l1.length := by obtain rfl := Lk.eq_std u; exact nat_lt hr
      clear hr
      have hlk : ((leftK (v0, m0) l1 k).length : Int) ≤ 1104 := by
        match k, hall with
        | 0, _ => show ((1 : Nat) : Int) ≤ 1104; omega
        | k + 1, hall =>
          have : ((leftK (v0, m0) l1 (k + 1)).length : Int) ≤ boundM n2 := hall k (by omega)
          omega
      refine hL Nat (fun j => j ≤ (leftK (v0, m0) l1 k).length ∧ ((partK (v0, m0) l1 k j).length : Int) ≤ boundM n2) (fun j => (leftK (v0, m0) l1 k).length - j)
          (fun j => ⟨[(11, .i .i64 (lk1 u (fun (k : Nat) => (k : Int)) j)), (10, .ow 29 (.sl .cube (lk3 u (fun c l (q : Nat × Nat) => partK c l q.1 q.2) (v0, m0) l1 (k, j)))), (8, .sl .cube (lk3 u (fun c l (k : Nat) => leftK c l k) (v0, m0) l1 k)), (9, .i .i64 (lk1 u (fun (k : Nat) => (k : Int)) k)), (2, .i .i64 (lk1 u boundM n2)), (1, .sl .cube l1)], [(29, .own 36 .cube)]⟩) _ _ _ 0 ?_ ?_ ?_ ?_
      · intro l st hk
        exact hk
      · exact ⟨Nat.zero_le _, by rw [part_zero]; show ((0 : Nat) : Int) ≤ _; omega⟩
      · cbv
        all_goals (obtain rfl := Lk.eq_std u; try simp only [Lk.std])
        all_goals (repeat' first | exact trivial | rfl | refine ⟨?_, ?_⟩)
      · rintro j ⟨hj, hB⟩
        cbv
        have hj : j ≤ (leftK (v0, m0) l1 k).length := hj
        have hB : ((partK (v0, m0) l1 k j).length : Int) ≤ boundM n2 := hB
        have hlk : ((leftK (v0, m0) l1 k).length : Int) ≤ 1104 := hlk
        have hkl : k < l1.length := hkl
        have hbr : 0 ≤ boundM n2 ∧ boundM n2 ≤ 1000 := hbr
        have hq' : l1.length ≤ 1000000 := hq'
        refine (iff_of_eq (u.e3 _ _ _ _)).mpr ⟨fun hr => ?_, fun hr => ?_⟩
        · have hlt : j < (leftK (v0, m0) l1 k).length := by obtain rfl := Lk.eq_std u; exact nat_lt hr
          clear hr
          have hrl : (rmk (v0, m0) l1 (k, j)).length ≤ 104 := by rw [rmk_eq _ _ hlt]; exact minusM_len _ _
          refine ⟨by obtain rfl := Lk.eq_std u; simp only [Lk.std]; (repeat' first | exact trivial | exact idx_ok hlt | exact idx_ok hkl | refine ⟨?_, ?_⟩), ?_⟩
          refine hL Nat (fun i => i ≤ (rmk (v0, m0) l1 (k, j)).length) (fun i => (rmk (v0, m0) l1 (k, j)).length - i)
              (fun i => ⟨[(13, .i .i64 (lk1 u (fun (k : Nat) => (k : Int)) i)), (12, .sl .cube (lk3 u rmk (v0, m0) l1 (k, j))), (10, .ow 29 (.sl .cube (lk3 u (fun c l (q : (Nat × Nat) × Nat) => accK c l q.1 q.2) (v0, m0) l1 ((k, j), i)))), (11, .i .i64 (lk1 u (fun (k : Nat) => (k : Int)) j)), (8, .sl .cube (lk3 u (fun c l (k : Nat) => leftK c l k) (v0, m0) l1 k)), (9, .i .i64 (lk1 u (fun (k : Nat) => (k : Int)) k)), (2, .i .i64 (lk1 u boundM n2)), (1, .sl .cube l1)], [(29, .own 36 .cube)]⟩) _ _ _ 0 ?_ ?_ ?_ ?_
          · intro l st hk
            exact hk
          · exact Nat.zero_le _
          · cbv
            all_goals (obtain rfl := Lk.eq_std u; try simp only [Lk.std])
            all_goals (repeat' first | exact trivial | rfl | refine ⟨?_, ?_⟩)
          · rintro i hi
            clear hL
            cbv
            obtain rfl := Lk.eq_std u
            simp only [Lk.std]
            have hi : i ≤ (rmk (v0, m0) l1 (k, j)).length := hi
            have hrl : (rmk (v0, m0) l1 (k, j)).length ≤ 104 := hrl
            have hlk : ((leftK (v0, m0) l1 k).length : Int) ≤ 1104 := hlk
            have hlj : j < (leftK (v0, m0) l1 k).length := hlt
            have hB : ((partK (v0, m0) l1 k j).length : Int) ≤ boundM n2 := hB
            have hbr : 0 ≤ boundM n2 ∧ boundM n2 ≤ 1000 := hbr
            have hal : (accK (v0, m0) l1 (k, j) i).length = (partK (v0, m0) l1 k j).length + i := acc_len (v0, m0) l1 (k, j) i
            refine ⟨fun hr => ?_, fun hr => ?_⟩
            · have hlt : i < (rmk (v0, m0) l1 (k, j)).length := nat_lt hr
              clear hr
              rw [wrap_succ i (by omega)]
              have hap : (accK (v0, m0) l1 (k, j) i).append [((atL .cube (rmk (v0, m0) l1 (k, j)) (Int.ofNat i)).1, (atL .cube (rmk (v0, m0) l1 (k, j)) (Int.ofNat i)).2)] = accK (v0, m0) l1 (k, j) (i + 1) := rfl
              have hln : lenS (SV.sl E.cube (accK (v0, m0) l1 (k, j) (i + 1))) ≤ 1099511627776 := by
                show ((accK (v0, m0) l1 (k, j) (i + 1)).length : Int) ≤ _
                rw [acc_len]
                show (((partK (v0, m0) l1 k j).length + (i + 1) : Nat) : Int) ≤ _
                omega
              rw [hap]
              refine ⟨by (repeat' first | exact trivial | exact idx_ok hlt | exact hln | refine ⟨?_, ?_⟩), i + 1, by omega, by omega, by (repeat' first | exact trivial | rfl | refine ⟨?_, ?_⟩)⟩
            · have hge : (rmk (v0, m0) l1 (k, j)).length ≤ i := nat_ge hr
              clear hr
              obtain rfl : i = (rmk (v0, m0) l1 (k, j)).length := by omega
              have hall' : accK (v0, m0) l1 (k, j) (rmk (v0, m0) l1 (k, j)).length = partK (v0, m0) l1 k (j + 1) := acc_all _ _ hlj
              rw [hall', wrap_succ j (by omega)]
              refine ⟨fun hb => ?_, fun hb => ?_⟩
              · have hb : boundM n2 < ((partK (v0, m0) l1 k (j + 1)).length : Int) := by simpa using hb
                obtain ⟨e1, e2⟩ := left_no (left_over (m := n2) hkl hb)
                rw [e1, e2]
                (repeat' first | exact trivial | rfl | refine ⟨?_, ?_⟩)
              · have hb : ¬ boundM n2 < ((partK (v0, m0) l1 k (j + 1)).length : Int) := by simpa using hb
                refine ⟨j + 1, ⟨by omega, by show ((partK (v0, m0) l1 k (j + 1)).length : Int) ≤ boundM n2; omega⟩, by omega, by (repeat' first | exact trivial | rfl | refine ⟨?_, ?_⟩)⟩
        · have hge : (leftK (v0, m0) l1 k).length ≤ j := by obtain rfl := Lk.eq_std u; exact nat_ge hr
          clear hr
          obtain rfl := Lk.eq_std u
          simp only [Lk.std]
          obtain rfl : j = (leftK (v0, m0) l1 k).length := by omega
          rw [part_all] at hB
          have hpa : partK (v0, m0) l1 k (leftK (v0, m0) l1 k).length = leftK (v0, m0) l1 (k + 1) := part_all _ _ _
          rw [wrap_succ k (by omega), hpa]
          refine ⟨k + 1, ⟨by omega, fun i hi => ?_⟩, by omega, by (repeat' first | exact trivial | rfl | refine ⟨?_, ?_⟩)⟩
          by_cases hik : i = k
          · rw [hik]; exact hB
          · exact hall i (by omega)
    · have hge : l1.length ≤ k := by obtain rfl := Lk.eq_std u; exact nat_ge hr
      clear hr
      obtain rfl := Lk.eq_std u
      simp only [Lk.std]
      obtain rfl : k = l1.length := by omega
      obtain ⟨e1, e2⟩ := left_yes (left_ok (c := (v0, m0)) (l := l1) (m := n2) h1 hall)
      rw [e1, e2]
      (repeat' first | exact trivial | rfl | refine ⟨?_, ?_⟩)

theorem plain90 : Plainly Try.prog 90 := ⟨Try.f90, Try.func90, by kernel_rfl, by kernel_rfl⟩
theorem ok90 (u : Lk) : SpecOK Try.prog 90 (leftS u) := fun args q r h hq => by
  obtain ⟨v0, m0, l1, n2, rfl, rfl, rfl⟩ := leftS_spec h
  exact fn_okT (u := u) Try.func90 rfl (fns_cons plain119 (ok119 u) (fns_cons plain43 (ok43 u) (fns_cons plain68 (ok68 u) fns_nil))) rfl rfl (walk90 u v0 m0 l1 n2 hq)

end Mx
