/- Around: the reference, Needs. Own work. -/
import Derived.Test.YtlnofclfpcmneaaPf
namespace Mx
open Go Go.Proofs
def raboutS (u : Lk) : Spec
  | [.sl .rule l0, .hd h1] => some (lq1 u small l0, (.tp (.pr (.hd (lk2 u (fun x0 x1 => (raboutC x0 x1).1) l0 h1)) (.hd (lk2 u (fun x0 x1 => (raboutC x0 x1).2) l0 h1))) (.tp (.i .i64 (lk2 u raboutA l0 h1)) (.b (lk2 u raboutB l0 h1)))))
  | _ => none
theorem raboutS_spec {u : Lk} {args : List SV} {q : Prop} {r : SV} (h : raboutS u args = some (q, r)) : ∃ l0 h1, args = [.sl .rule l0, .hd h1] ∧ r = (.tp (.pr (.hd (lk2 u (fun x0 x1 => (raboutC x0 x1).1) l0 h1)) (.hd (lk2 u (fun x0 x1 => (raboutC x0 x1).2) l0 h1))) (.tp (.i .i64 (lk2 u raboutA l0 h1)) (.b (lk2 u raboutB l0 h1)))) ∧ q = (lq1 u small l0) := by
  unfold raboutS at h
  split at h
  · simp only [Option.some.injEq, Prod.mk.injEq] at h
    exact ⟨_, _, rfl, h.2.symm, h.1.symm⟩
  · cases h

noncomputable def reg51_8 : Array Oper := ((regAt (Try.f51.body.getD .skip) 8).getD #[])
theorem drawn51_8 : drawT reg51_8 = true := by decide +kernel
noncomputable def reg51_9 : Array Oper := ((regAt (Try.f51.body.getD .skip) 9).getD #[])
theorem drawn51_9 : drawT reg51_9 = true := by decide +kernel
noncomputable def reg51_10 : Array Oper := ((regAt (Try.f51.body.getD .skip) 10).getD #[])
theorem drawn51_10 : drawT reg51_10 = true := by decide +kernel
noncomputable def reg51_18 : Array Oper := ((regAt (Try.f51.body.getD .skip) 18).getD #[])
theorem drawn51_18 : drawT reg51_18 = true := by decide +kernel
noncomputable def tab51 : Tab := [(8, ⟨reg51_8, drawn51_8⟩), (9, ⟨reg51_9, drawn51_9⟩), (10, ⟨reg51_10, drawn51_10⟩), (18, ⟨reg51_18, drawn51_18⟩)]
set_option maxRecDepth 100000 in
theorem walk51 (u : Lk) (l0 : List Ru) (h1 : Hd) (hq : lq1 u small l0) : WalkT tab51 19037042135936924786683 Try.f51 (Try.f51.body.getD .skip) [(53, firstS u), (43, canonS u), (108, meetsS u), (109, oddS u), (110, valS u), (57, setS u), (56, atS u), (54, clearS u)] u [.sl .rule l0, .hd h1] (.tp (.pr (.hd (lk2 u (fun x0 x1 => (raboutC x0 x1).1) l0 h1)) (.hd (lk2 u (fun x0 x1 => (raboutC x0 x1).2) l0 h1))) (.tp (.i .i64 (lk2 u raboutA l0 h1)) (.b (lk2 u raboutB l0 h1)))) := by
  intro L hL
  cbv
  have hq' : l0.length ≤ 4611686018427387904 := by obtain rfl := Lk.eq_std u; exact hq
  have hrg := firstM_range l0 h1
  refine ⟨by obtain rfl := Lk.eq_std u; exact ⟨hq, trivial⟩, ?_⟩
  refine (iff_of_eq (u.e3 _ _ _ _)).mpr ⟨fun hr => ?_, fun hr => ?_⟩
  · obtain rfl := Lk.eq_std u
    simp only [Lk.std]
    have hno : rno l0 h1 = true := hr
    have h3 : raboutC l0 h1 = (0, 0) := by unfold raboutC; rw [hno]; rfl
    have h4 : raboutA l0 h1 = 0 := by unfold raboutA; rw [hno]; rfl
    have h5 : raboutB l0 h1 = false := by unfold raboutB; rw [hno]; rfl
    rw [h3, h4, h5]
    (repeat' first | exact trivial | rfl | refine ⟨?_, ?_⟩)
  have hno : rno l0 h1 = false := by obtain rfl := Lk.eq_std u; exact hr
  clear hr
  have hin : 0 ≤ firstM l0 h1 ∧ firstM l0 h1 < l0.length := hrg.resolve_left (of_decide_eq_false hno)
  refine ⟨by obtain rfl := Lk.eq_std u; (repeat' first | exact trivial | exact hin | refine ⟨?_, ?_⟩), ?_⟩
  refine hL Nat (fun j => j ≤ (firstM l0 h1).toNat) (fun j => (firstM l0 h1).toNat - j)
      (fun j => ⟨[(9, .i .i64 (lk1 u (fun (k : Nat) => (k : Int)) j)), (8, .p 8 [] 0), (7, .i .i64 (lk2 u firstM l0 h1)), (4, .p 4 [] 0), (3, .p 3 [] 0), (0, .sl .rule l0)], [(8, .box 36 (.pr (.hd (lk3 u (fun x0 x1 x2 => (rfixed x0 x1 x2).1) l0 h1 j)) (.hd (lk3 u (fun x0 x1 x2 => (rfixed x0 x1 x2).2) l0 h1 j)))), (4, .box 36 (.pr (.hd 0) (.hd 0))), (3, .box 34 (.hd h1))]⟩) _ _ _ 0 ?_ ?_ ?_ ?_
  · intro l st hk
    exact hk
  · simp
  · cbv
    all_goals (obtain rfl := Lk.eq_std u; try simp only [Lk.std])
    all_goals (repeat' first | exact trivial | rfl | refine ⟨?_, ?_⟩)
  · rintro j hj'
    cbv
    refine (iff_of_eq (u.e3 _ _ _ _)).mpr ⟨fun hr => ?_, fun hr => ?_⟩
    · obtain rfl := Lk.eq_std u
      simp only [Lk.std]
      have hlt : (j : Int) < firstM l0 h1 := of_decide_eq_true hr
      clear hr
      have hjl : j < l0.length := Int.ofNat_lt.1 (Int.lt_trans hlt hin.2)
      have hs : rfixed l0 h1 (j + 1) = rstepA (rfixed l0 h1 j) (atL .rule l0 (j : Nat)).2.1 h1 := rfl
      have hi : ((0 : Int) ≤ Int.ofNat j ∧ Int.ofNat j < (l0.length : Int)) := idx_ok hjl
      rw [wrap_succ j (by omega)]
      refine ⟨by (repeat' first | exact trivial | exact hi | refine ⟨?_, ?_⟩), fun hm => ?_, fun hm => ?_⟩
      · have e2 : rfixed l0 h1 (j + 1) = setC (rfixed l0 h1 j) (oddM (atL .rule l0 (j : Nat)).2.1 h1) (valM h1 (oddM (atL .rule l0 (j : Nat)).2.1 h1)) := by
          have : meetOk (rfixed l0 h1 j) (atL .rule l0 (j : Nat)).2.1 = true := hm
          rw [hs, rstepA, this, cond_true]
        refine ⟨by (repeat' first | exact trivial | exact hi | refine ⟨?_, ?_⟩), j + 1, by omega, by omega, ?_⟩
        simp only [lk1, lk2, lk3, e2]
        (repeat' first | exact trivial | rfl | refine ⟨?_, ?_⟩)
      · have e2 : rfixed l0 h1 (j + 1) = rfixed l0 h1 j := by
          have : meetOk (rfixed l0 h1 j) (atL .rule l0 (j : Nat)).2.1 = false := hm
          rw [hs, rstepA, this, cond_false]
        refine ⟨j + 1, by omega, by omega, ?_⟩
        simp only [lk1, lk2, lk3, e2]
        (repeat' first | exact trivial | rfl | refine ⟨?_, ?_⟩)
    · have hjn : j = (firstM l0 h1).toNat := by
        obtain rfl := Lk.eq_std u
        have : ¬ (j : Int) < firstM l0 h1 := of_decide_eq_false hr
        omega
      clear hr
      refine hL Nat (fun i => i ≤ 104) (fun i => 104 - i)
          (fun i => ⟨[(11, .i .i64 (lk1 u (fun (k : Nat) => (k : Int)) i)), (8, .p 8 [] 0), (7, .i .i64 (lk2 u firstM l0 h1)), (4, .p 4 [] 0), (3, .p 3 [] 0), (0, .sl .rule l0)], [(8, .box 36 (.pr (.hd (lk3 u (fun x0 x1 x2 => (rfreed x0 x1 x2).1) l0 h1 i)) (.hd (lk3 u (fun x0 x1 x2 => (rfreed x0 x1 x2).2) l0 h1 i)))), (4, .box 36 (.pr (.hd 0) (.hd 0))), (3, .box 34 (.hd h1))]⟩) _ _ _ 0 ?_ ?_ ?_ ?_
      · intro l st hk
        exact hk
      · simp
      · cbv
        all_goals (obtain rfl := Lk.eq_std u; simp only [Lk.std]; subst hjn)
        all_goals (repeat' first | exact trivial | rfl | refine ⟨?_, ?_⟩)
      · rintro i hi
        clear hL
        cbv
        obtain rfl := Lk.eq_std u
        simp only [Lk.std]
        refine ⟨fun hr => ?_, fun hr => ?_⟩
        · have hlt := num_lt hr
          clear hr
          rw [wrap_succ i (by omega)]
          have hsk : (bif atM (atL .rule l0 (firstM l0 h1)).2.1.1 (atL .rule l0 (firstM l0 h1)).2.1.2 (i : Nat) != 2 then true else (atM (rfreed l0 h1 i).1 (rfreed l0 h1 i).2 (i : Nat) == 2)) = rskip l0 h1 (rfreed l0 h1 i) i := by
            unfold rskip
            cases (atM (atL .rule l0 (firstM l0 h1)).2.1.1 (atL .rule l0 (firstM l0 h1)).2.1.2 (i : Nat) != 2) <;> rfl
          have hs : rfreed l0 h1 (i + 1) = rfreeAt l0 h1 (rfreed l0 h1 i) i := rfl
          refine ⟨?_, fun hm => ?_, fun hm => ?_⟩
          · simp [hin.1, hin.2]
          · have hm : rskip l0 h1 (rfreed l0 h1 i) i = true := hsk.symm.trans hm
            have e2 : rfreed l0 h1 (i + 1) = rfreed l0 h1 i := by rw [hs, rfreeAt, hm, cond_true]
            refine ⟨i + 1, by omega, by omega, ?_⟩
            simp only [lk1, lk2, lk3, e2]
            (repeat' first | exact trivial | rfl | refine ⟨?_, ?_⟩)
          · have hm : rskip l0 h1 (rfreed l0 h1 i) i = false := hsk.symm.trans hm
            refine ⟨⟨hq', by omega⟩, fun hc => ?_, fun hc => ?_⟩
            · have e2 : rfreed l0 h1 (i + 1) = setC (rfreed l0 h1 i) (i : Nat) 2 := by
                have hc : clearM l0 (firstM l0 h1) (setC (rfreed l0 h1 i) (i : Nat) 2) = true := hc
                rw [hs, rfreeAt, hm, cond_false, hc, cond_true]
              refine ⟨i + 1, by omega, by omega, ?_⟩
              simp only [lk1, lk2, lk3, e2]
              (repeat' first | exact trivial | rfl | refine ⟨?_, ?_⟩)
            · have e2 : rfreed l0 h1 (i + 1) = rfreed l0 h1 i := by
                have hc : clearM l0 (firstM l0 h1) (setC (rfreed l0 h1 i) (i : Nat) 2) = false := hc
                rw [hs, rfreeAt, hm, cond_false, hc, cond_false]
              refine ⟨i + 1, by omega, by omega, ?_⟩
              simp only [lk1, lk2, lk3, e2]
              (repeat' first | exact trivial | rfl | refine ⟨?_, ?_⟩)
        · have hge := num_ge hr
          clear hr
          obtain rfl : i = 104 := by omega
          have h3 : raboutC l0 h1 = rfreed l0 h1 104 := by unfold raboutC; rw [hno]; rfl
          have h4 : raboutA l0 h1 = (atL .rule l0 (firstM l0 h1)).2.2 := by unfold raboutA; rw [hno]; rfl
          have h5 : raboutB l0 h1 = true := by unfold raboutB; rw [hno]; rfl
          rw [h3, h4, h5]
          (repeat' first | exact trivial | exact hin | rfl | refine ⟨?_, ?_⟩)

theorem plain51 : Plainly Try.prog 51 := ⟨Try.f51, Try.func51, by kernel_rfl, by kernel_rfl⟩
theorem ok51 (u : Lk) : SpecOK Try.prog 51 (raboutS u) := fun args q r h hq => by
  obtain ⟨l0, h1, rfl, rfl, rfl⟩ := raboutS_spec h
  exact fn_okT (u := u) Try.func51 rfl (fns_cons plain53 (ok53 u) (fns_cons plain43 (ok43 u) (fns_cons plain108 (ok108 u) (fns_cons plain109 (ok109 u) (fns_cons plain110 (ok110 u) (fns_cons plain57 (ok57 u) (fns_cons plain56 (ok56 u) (fns_cons plain54 (ok54 u) fns_nil)))))))) rfl rfl (walk51 u l0 h1 hq)

def tiny {α : Type} (l : List α) : Prop := l.length ≤ 1000000
theorem needs_out (l : List Ru) (i : Int) : (bif decide (i < 0) then true else decide ((l.length : Int) ≤ i)) = !needsIn l i := by
  unfold needsIn
  by_cases h0 : i < 0
  · have h1 : ¬ 0 ≤ i := by omega
    simp [h0, h1]
  · have h1 : 0 ≤ i := by omega
    by_cases h2 : (l.length : Int) ≤ i
    · have h3 : ¬ i < l.length := by omega
      simp [h0, h1, h2, h3]
    · have h3 : i < l.length := by omega
      simp [h0, h1, h2, h3]
theorem needs_in {l : List Ru} {i : Int} (h : needsIn l i = true) : 0 ≤ i ∧ i < l.length ∧ i.toNat < l.length := by
  unfold needsIn at h
  rw [Bool.and_eq_true, decide_eq_true_eq, decide_eq_true_eq] at h
  omega
theorem needs_no {l : List Ru} {i : Int} (h : needsIn l i = false) : needsM l i = needsK l i 0 := by unfold needsM; rw [h]; rfl
theorem needs_yes {l : List Ru} {i : Int} (h : needsIn l i = true) : needsM l i = needsK l i i.toNat := by unfold needsM; rw [h]; rfl
theorem needs_step {l : List Ru} {i : Int} {k : Nat} (b : Bool) (h : needsP l i k = b) : needsK l i (k + 1) = needsK l i k ++ (bif b then [(k : Int)] else []) := by rw [needs_succ, h]

def needsS (u : Lk) : Spec
  | [.sl .rule l0, .i .i64 n1] => some (lq1 u tiny l0, (.sl .int (lk2 u needsM l0 n1)))
  | _ => none
theorem needsS_spec {u : Lk} {args : List SV} {q : Prop} {r : SV} (h : needsS u args = some (q, r)) : ∃ l0 n1, args = [.sl .rule l0, .i .i64 n1] ∧ r = (.sl .int (lk2 u needsM l0 n1)) ∧ q = (lq1 u tiny l0) := by
  unfold needsS at h
  split at h
  · simp only [Option.some.injEq, Prod.mk.injEq] at h
    exact ⟨_, _, rfl, h.2.symm, h.1.symm⟩
  · cases h

noncomputable def reg69_7 : Array Oper := ((regAt (Try.f69.body.getD .skip) 7).getD #[])
theorem drawn69_7 : drawT reg69_7 = true := by decide +kernel
noncomputable def tab69 : Tab := [(7, ⟨reg69_7, drawn69_7⟩)]
set_option maxRecDepth 100000 in
theorem walk69 (u : Lk) (l0 : List Ru) (n1 : Int) (hq : lq1 u tiny l0) : WalkT tab69 274893767411 Try.f69 (Try.f69.body.getD .skip) [(61, meetS u)] u [.sl .rule l0, .i .i64 n1] (.sl .int (lk2 u needsM l0 n1)) := by
  intro L hL
  cbv
  have hq' : l0.length ≤ 1000000 := by obtain rfl := Lk.eq_std u; exact hq
  refine ⟨by obtain rfl := Lk.eq_std u; simp [Lk.std], ?_⟩
  refine (iff_of_eq (u.e3 _ _ _ _)).mpr ⟨fun hr => ?_, fun hr => ?_⟩
  · obtain rfl := Lk.eq_std u
    simp only [Lk.std] at hr ⊢
    have : needsIn l0 n1 = false := by
      have := (needs_out l0 n1).symm.trans hr
      simpa using this
    rw [needs_no this]; rfl
  have hyes : needsIn l0 n1 = true := by
    obtain rfl := Lk.eq_std u
    have := (needs_out l0 n1).symm.trans hr
    simpa using this
  clear hr
  obtain ⟨h01, h02, h03⟩ := needs_in hyes
  have h02' : n1 ≤ (l0.length : Int) := Int.le_of_lt h02
  refine ⟨by obtain rfl := Lk.eq_std u; exact ⟨⟨⟨Int.le_refl _, h01, h02'⟩, trivial⟩, trivial⟩, ?_⟩
  refine hL Nat (fun k => k ≤ n1.toNat) (fun k => n1.toNat - k)
      (fun k => ⟨[(22, .i .i64 (lk1 u (fun (k : Nat) => (k : Int)) k)), (21, .i .i64 (lk2 u (fun (l : List Ru) (n : Int) => (((l.take n.toNat).drop 0).length : Int)) l0 n1)), (20, .sl .rule (lk2 u (fun (l : List Ru) (n : Int) => (l.take n.toNat).drop 0) l0 n1)), (5, .ow 5 (.sl .int (lk3 u needsK l0 n1 k))), (1, .i .i64 n1), (0, .sl .rule l0)], [(5, .own 3 .int)]⟩) _ _ _ 0 ?_ ?_ ?_ ?_
  · intro l st hk
    exact hk
  · exact Nat.zero_le _
  · cbv
    all_goals (obtain rfl := Lk.eq_std u; try simp only [Lk.std])
    all_goals (repeat' first | exact trivial | rfl | refine ⟨?_, ?_⟩)
  · rintro k hk
    clear hL
    cbv
    obtain rfl := Lk.eq_std u
    simp only [Lk.std]
    have hnl : (needsK l0 n1 k).length ≤ k := needs_len l0 n1 k
    have hk : k ≤ n1.toNat := hk
    have hq' : l0.length ≤ 1000000 := hq'
    have h03 : n1.toNat < l0.length := h03
    have hin : 0 ≤ n1 ∧ n1 < (l0.length : Int) := ⟨h01, h02⟩
    have htl : ((l0.take n1.toNat).drop 0).length = n1.toNat := take_len (l := l0) (n := n1.toNat) (Nat.le_of_lt h03)
    refine ⟨fun hr => ?_, fun hr => ?_⟩
    · have hml : k < ((l0.take n1.toNat).drop 0).length := nat_lt hr
      clear hr
      have hmn : k < n1.toNat := by omega
      have hg : atL .rule ((l0.take n1.toNat).drop 0) (Int.ofNat k) = atL .rule l0 (Int.ofNat k) := take_get (l := l0) (k := k) (n := n1.toNat) hmn (by omega)
      have hi' : ((0 : Int) ≤ Int.ofNat k ∧ Int.ofNat k < (((l0.take n1.toNat).drop 0).length : Int)) := idx_ok hml
      rw [wrap_succ k (by omega)]
      refine ⟨by (repeat' first | exact trivial | exact hi' | refine ⟨?_, ?_⟩), by (repeat' first | exact trivial | exact hin | refine ⟨?_, ?_⟩), fun hb => ?_, fun hb => ?_⟩
      · have hb : meetOk (atL .rule ((l0.take n1.toNat).drop 0) (Int.ofNat k)).2.1 (atL .rule l0 n1).2.1 = true := hb
        rw [hg] at hb
        have e2 := needs_step true (show needsP l0 n1 k = true from hb)
        rw [cond_true] at e2
        refine ⟨⟨?_, trivial⟩, k + 1, by omega, by omega, ?_⟩
        · have e3 : (needsK l0 n1 k).append [Int.ofNat k] = needsK l0 n1 k ++ [(k : Int)] := rfl
          simp only [lenS, e3, List.length_append, List.length_cons, List.length_nil]
          omega
        · have e3 : (needsK l0 n1 k).append [Int.ofNat k] = needsK l0 n1 (k + 1) := e2.symm
          simp only [lk1, lk2, lk3, e3]
          (repeat' first | exact trivial | rfl | refine ⟨?_, ?_⟩)
      · have hb : meetOk (atL .rule ((l0.take n1.toNat).drop 0) (Int.ofNat k)).2.1 (atL .rule l0 n1).2.1 = false := hb
        rw [hg] at hb
        have e2 := needs_step false (show needsP l0 n1 k = false from hb)
        rw [cond_false, List.append_nil] at e2
        refine ⟨k + 1, by omega, by omega, ?_⟩
        simp only [lk1, lk2, lk3, e2]
        (repeat' first | exact trivial | rfl | refine ⟨?_, ?_⟩)
    · have hml : ((l0.take n1.toNat).drop 0).length ≤ k := nat_ge hr
      clear hr
      obtain rfl : k = n1.toNat := by omega
      rw [needs_yes hyes]

theorem plain69 : Plainly Try.prog 69 := ⟨Try.f69, Try.func69, by kernel_rfl, by kernel_rfl⟩
theorem ok69 (u : Lk) : SpecOK Try.prog 69 (needsS u) := fun args q r h hq => by
  obtain ⟨l0, n1, rfl, rfl, rfl⟩ := needsS_spec h
  exact fn_okT (u := u) Try.func69 rfl (fns_cons plain61 (ok61 u) fns_nil) rfl rfl (walk69 u l0 n1 hq)

noncomputable def reg70_5 : Array Oper := ((regAt (Try.f70.body.getD .skip) 5).getD #[])
theorem drawn70_5 : drawT reg70_5 = true := by decide +kernel
noncomputable def tab70 : Tab := [(5, ⟨reg70_5, drawn70_5⟩)]
set_option maxRecDepth 100000 in
theorem walk70 (u : Lk) (l0 : List Ru) (n1 : Int) (hq : lq1 u tiny l0) : WalkT tab70 8590983283 Try.f70 (Try.f70.body.getD .skip) [(108, meetsS u)] u [.sl .rule l0, .i .i64 n1] (.sl .int (lk2 u needsM l0 n1)) := by
  intro L hL
  cbv
  have hq' : l0.length ≤ 1000000 := by obtain rfl := Lk.eq_std u; exact hq
  refine hL Nat (fun k => k ≤ (if needsIn l0 n1 = true then n1.toNat else 0)) (fun k => n1.toNat - k)
      (fun k => ⟨[(6, .i .i64 (lk1 u (fun (k : Nat) => (k : Int)) k)), (5, .ow 7 (.sl .int (lk3 u needsK l0 n1 k))), (1, .i .i64 n1), (0, .sl .rule l0)], [(7, .own 3 .int)]⟩) _ _ _ 0 ?_ ?_ ?_ ?_
  · intro l st hk
    exact hk
  · exact Nat.zero_le _
  · cbv
    all_goals (obtain rfl := Lk.eq_std u; try simp only [Lk.std])
    all_goals (repeat' first | exact trivial | rfl | refine ⟨?_, ?_⟩)
  · rintro k hk
    clear hL
    cbv
    obtain rfl := Lk.eq_std u
    simp only [Lk.std]
    have hnl : (needsK l0 n1 k).length ≤ k := needs_len l0 n1 k
    have hq' : l0.length ≤ 1000000 := hq'
    have hk : k ≤ (if needsIn l0 n1 = true then n1.toNat else 0) := hk
    have hcd : (bif (bif decide (0 ≤ n1) then decide (n1 < l0.length) else false) then decide (Int.ofNat k < n1) else false) = (needsIn l0 n1 && decide (Int.ofNat k < n1)) := by
      unfold needsIn
      cases decide (0 ≤ n1) <;> cases decide (n1 < (l0.length : Int)) <;> rfl
    refine ⟨?_, fun hr => ?_, fun hr => ?_⟩
    · simp
    · have hr := hcd.symm.trans hr
      rw [Bool.and_eq_true, decide_eq_true_eq] at hr
      obtain ⟨hyes, hlt⟩ := hr
      have hlt : (k : Int) < n1 := hlt
      obtain ⟨h01, h02, h03⟩ := needs_in hyes
      have h03 : n1.toNat < l0.length := h03
      have hkl : k < l0.length := by omega
      have hin : 0 ≤ n1 ∧ n1 < (l0.length : Int) := ⟨h01, h02⟩
      have hi' : ((0 : Int) ≤ Int.ofNat k ∧ Int.ofNat k < (l0.length : Int)) := idx_ok hkl
      rw [if_pos hyes] at hk
      rw [wrap_succ k (by omega)]
      refine ⟨by (repeat' first | exact trivial | exact hi' | exact hin | refine ⟨?_, ?_⟩), fun hb => ?_, fun hb => ?_⟩
      · have e2 := needs_step true (show needsP l0 n1 k = true from hb)
        rw [cond_true] at e2
        refine ⟨⟨?_, trivial⟩, k + 1, by rw [if_pos hyes]; omega, by omega, ?_⟩
        · have e3 : (needsK l0 n1 k).append [Int.ofNat k] = needsK l0 n1 k ++ [(k : Int)] := rfl
          simp only [lenS, e3, List.length_append, List.length_cons, List.length_nil]
          omega
        · have e3 : (needsK l0 n1 k).append [Int.ofNat k] = needsK l0 n1 (k + 1) := e2.symm
          simp only [lk1, lk2, lk3, e3]
          (repeat' first | exact trivial | rfl | refine ⟨?_, ?_⟩)
      · have e2 := needs_step false (show needsP l0 n1 k = false from hb)
        rw [cond_false, List.append_nil] at e2
        refine ⟨k + 1, by rw [if_pos hyes]; omega, by omega, ?_⟩
        simp only [lk1, lk2, lk3, e2]
        (repeat' first | exact trivial | rfl | refine ⟨?_, ?_⟩)
    · have hr := hcd.symm.trans hr
      have e3 : needsM l0 n1 = needsK l0 n1 k := by
        cases hyes : needsIn l0 n1
        · rw [hyes, if_neg (by simp)] at hk
          rw [needs_no hyes, show k = 0 by omega]
        · rw [hyes, Bool.true_and, decide_eq_false_iff_not] at hr
          have hr : ¬ (k : Int) < n1 := hr
          rw [hyes, if_pos rfl] at hk
          rw [needs_yes hyes, show k = n1.toNat by omega]
      rw [e3]

theorem plain70 : Plainly Try.prog 70 := ⟨Try.f70, Try.func70, by kernel_rfl, by kernel_rfl⟩
theorem ok70 (u : Lk) : SpecOK Try.prog 70 (needsS u) := fun args q r h hq => by
  obtain ⟨l0, n1, rfl, rfl, rfl⟩ := needsS_spec h
  exact fn_okT (u := u) Try.func70 rfl (fns_cons plain108 (ok108 u) fns_nil) rfl rfl (walk70 u l0 n1 hq)

end Mx
