/- Minus of the reference, Same, Text, Parse in both. Own work. -/
import Derived.Test.YtlnofclfpcmneaaFk
namespace Mx
open Go Go.Proofs
theorem wrap_succ (k : Nat) (h : k < 9223372036854775807) : IntKind.i64.wrap (Int.ofNat k + 1) = ((k + 1 : Nat) : Int) := by
  show IntKind.i64.wrap ((k : Int) + 1) = _
  rw [wrap_i64 (by omega) (by omega)]; omega
theorem at_le (v m : Hd) (i : Int) : 0 ≤ atM v m i ∧ atM v m i ≤ 2 := by
  unfold atM
  cases bitM m i <;> cases bitM v i <;> simp
def rminAt (a b : Cu) (st : List Cu × Cu) (i : Nat) : List Cu × Cu :=
  bif (atM a.1 a.2 i == 2) && (atM b.1 b.2 i != 2) then
    (st.1 ++ [(setV st.2.1 i (1 - atM b.1 b.2 i), setK st.2.2 i (1 - atM b.1 b.2 i))], (setV st.2.1 i (atM b.1 b.2 i), setK st.2.2 i (atM b.1 b.2 i)))
  else st
def rminL (a b : Cu) : Nat → List Cu × Cu
  | 0 => ([], canonM a)
  | n + 1 => rminAt a b (rminL a b n) n
def rminM (a b : Cu) : List Cu := bif meetOk a b then (rminL a b 104).1 else [canonM a]
theorem rmin_len (a b : Cu) : ∀ n, (rminL a b n).1.length ≤ n
  | 0 => Nat.le_refl _
  | n + 1 => by
    have ih := rmin_len a b n
    simp only [rminL, rminAt]
    cases (atM a.1 a.2 n == 2) && (atM b.1 b.2 n != 2)
    · simp; omega
    · simp; omega

def rminS (u : Lk) : Spec
  | [.pr (.hd v0) (.hd m0), .pr (.hd v1) (.hd m1)] => some (True, (.sl .cube (lk2 u rminM (v0, m0) (v1, m1))))
  | _ => none
theorem rminS_spec {u : Lk} {args : List SV} {q : Prop} {r : SV} (h : rminS u args = some (q, r)) : ∃ v0 m0 v1 m1, args = [.pr (.hd v0) (.hd m0), .pr (.hd v1) (.hd m1)] ∧ r = (.sl .cube (lk2 u rminM (v0, m0) (v1, m1))) := by
  unfold rminS at h
  split at h
  · simp only [Option.some.injEq, Prod.mk.injEq] at h
    exact ⟨_, _, _, _, rfl, h.2.symm⟩
  · cases h

set_option maxRecDepth 100000 in
theorem walk68 (u : Lk) (v0 : Hd) (m0 : Hd) (v1 : Hd) (m1 : Hd) : Walk Try.f68 (Try.f68.body.getD .skip) [(62, meetS u), (43, canonS u), (56, atS u), (57, setS u)] u [.pr (.hd v0) (.hd m0), .pr (.hd v1) (.hd m1)] (.sl .cube (lk2 u rminM (v0, m0) (v1, m1))) := by
  intro L hL
  cbv
  refine (iff_of_eq (u.e3 _ _ _ _)).mpr ⟨fun hm => ?_, fun hm => ?_⟩
  · obtain rfl := Lk.eq_std u
    simp only [Lk.std] at hm ⊢
    have hno : meetOk (v0, m0) (v1, m1) = false := by simpa using hm
    refine ⟨by simp [lenS], ?_⟩
    simp only [rminM, hno, cond_false]
    rfl
  refine hL Nat (fun k => k ≤ 104) (fun k => 104 - k)
    (fun k => ⟨[(9, .i .i64 (lk1 u (fun (k : Nat) => (k : Int)) k)), (5, .ow 11 (.sl .cube (lk3 u (fun a b n => (rminL a b n).1) (v0, m0) (v1, m1) k))), (2, .p 2 [] 0), (3, .p 3 [] 0), (8, .p 8 [] 0)], [(11, .own 36 .cube), (8, .box 36 (.pr (.hd (lk3 u (fun a b n => (rminL a b n).2.1) (v0, m0) (v1, m1) k)) (.hd (lk3 u (fun a b n => (rminL a b n).2.2) (v0, m0) (v1, m1) k)))), (2, .box 36 (.pr (.hd v0) (.hd m0))), (3, .box 36 (.pr (.hd v1) (.hd m1)))]⟩) _ _ _ 0 ?_ ?_ ?_ ?_
  · intro l st hk
    exact hk
  · simp
  · cbv
    all_goals (obtain rfl := Lk.eq_std u; try simp only [Lk.std])
    all_goals (repeat' first | exact trivial | rfl | refine ⟨?_, ?_⟩)
  · rintro k hk
    cbv
    obtain rfl := Lk.eq_std u
    simp only [Lk.std] at hm ⊢
    have hyes : meetOk (v0, m0) (v1, m1) = true := by simpa using hm
    refine ⟨fun hlt => ?_, fun hge => ?_⟩
    · have hlt : (k : Int) < 104 := by simpa using hlt
      rw [wrap_succ k (by omega)]
      have hlen := rmin_len (v0, m0) (v1, m1) k
      have hat := at_le v1 m1 (k : Nat)
      have hw : IntKind.i64.wrap (1 - atM v1 m1 (Int.ofNat k)) = 1 - atM v1 m1 (k : Nat) := by
        show IntKind.i64.wrap (1 - atM v1 m1 (k : Nat)) = _
        rw [wrap_i64 (by omega) (by omega)]
      rw [hw]
      refine ⟨by simp, fun hs => ?_, fun hs => ?_⟩
      · have e : rminL (v0, m0) (v1, m1) (k + 1) = ((rminL (v0, m0) (v1, m1) k).1 ++ [(setV (rminL (v0, m0) (v1, m1) k).2.1 k (1 - atM v1 m1 k), setK (rminL (v0, m0) (v1, m1) k).2.2 k (1 - atM v1 m1 k))], (setV (rminL (v0, m0) (v1, m1) k).2.1 k (atM v1 m1 k), setK (rminL (v0, m0) (v1, m1) k).2.2 k (atM v1 m1 k))) := by
          have hs' : ((atM v0 m0 (k : Nat) == 2) && (atM v1 m1 (k : Nat) != 2)) = true := by
            rw [← hs]; cases e1 : (atM v0 m0 (k : Nat) == 2) <;> simp_all
          simp only [rminL, rminAt, hs', cond_true]
        refine ⟨⟨?_, trivial⟩, k + 1, by omega, by omega, ?_⟩
        · simp only [lenS, List.append_eq, List.length_append, List.length_cons, List.length_nil]
          omega
        · simp only [lk1, lk3, e]
          (repeat' first | exact trivial | rfl | refine ⟨?_, ?_⟩)
      · have e : rminL (v0, m0) (v1, m1) (k + 1) = rminL (v0, m0) (v1, m1) k := by
          have hs' : ((atM v0 m0 (k : Nat) == 2) && (atM v1 m1 (k : Nat) != 2)) = false := by
            rw [← hs]; cases e1 : (atM v0 m0 (k : Nat) == 2) <;> simp_all
          simp only [rminL, rminAt, hs', cond_false]
        refine ⟨k + 1, by omega, by omega, ?_⟩
        simp only [lk1, lk3, e]
        (repeat' first | exact trivial | rfl | refine ⟨?_, ?_⟩)
    · have hge : ¬ (k : Int) < 104 := by simpa using hge
      have : k = 104 := by omega
      subst this
      simp only [rminM, hyes, cond_true]

theorem plain68 : Plainly Try.prog 68 := ⟨Try.f68, Try.func68, by kernel_rfl, by kernel_rfl⟩
theorem ok68 (u : Lk) : SpecOK Try.prog 68 (rminS u) := fun args q r h hq => by
  obtain ⟨v0, m0, v1, m1, rfl, rfl⟩ := rminS_spec h
  exact fn_ok (u := u) Try.func68 rfl (fns_cons plain62 (ok62 u) (fns_cons plain43 (ok43 u) (fns_cons plain56 (ok56 u) (fns_cons plain57 (ok57 u) fns_nil)))) rfl rfl (walk68 u v0 m0 v1 m1)

def sameM (a b : List Cu) : Bool := decide (a = b)
def shortL (l : List Cu) : Prop := l.length ≤ 4611686018427387904
theorem atL_nat (l : List Cu) (k : Nat) (h : k < l.length) : atL .cube l (k : Nat) = l[k] := by
  unfold atL
  rw [Int.toNat_natCast, List.getD_eq_getElem?_getD, List.getElem?_eq_getElem h]; rfl

def sameS (u : Lk) : Spec
  | [.sl .cube l0, .sl .cube l1] => some (lq1 u shortL l0, (.b (lk2 u sameM l0 l1)))
  | _ => none
theorem sameS_spec {u : Lk} {args : List SV} {q : Prop} {r : SV} (h : sameS u args = some (q, r)) : ∃ l0 l1, args = [.sl .cube l0, .sl .cube l1] ∧ r = (.b (lk2 u sameM l0 l1)) ∧ q = (lq1 u shortL l0) := by
  unfold sameS at h
  split at h
  · simp only [Option.some.injEq, Prod.mk.injEq] at h
    exact ⟨_, _, rfl, h.2.symm, h.1.symm⟩
  · cases h

set_option maxRecDepth 100000 in
theorem walk67 (u : Lk) (l0 : List Cu) (l1 : List Cu) (hq : lq1 u shortL l0) : Walk Try.f67 (Try.f67.body.getD .skip) [] u [.sl .cube l0, .sl .cube l1] (.b (lk2 u sameM l0 l1)) := by
  intro L hL
  cbv
  refine (iff_of_eq (u.e3 _ _ _ _)).mpr ⟨fun hm => ?_, fun hm => ?_⟩
  · obtain rfl := Lk.eq_std u
    simp only [Lk.std] at hm ⊢
    have hno : (l0.length : Int) ≠ (l1.length : Int) := by simpa using hm
    have : sameM l0 l1 = false := by
      unfold sameM
      rw [decide_eq_false_iff_not]
      intro h; exact hno (by rw [h])
    rw [this]
  refine hL Nat (fun k => k ≤ l0.length ∧ ∀ j : Nat, j < k → atL .cube l0 (j : Nat) = atL .cube l1 (j : Nat)) (fun k => l0.length - k)
    (fun k => ⟨[(5, .i .i64 (lk1 u (fun (k : Nat) => (k : Int)) k)), (1, .sl .cube l1), (0, .sl .cube l0)], []⟩) _ _ _ 0 ?_ ?_ ?_ ?_
  · intro l st hk
    exact hk
  · exact ⟨by simp, fun j hj => by omega⟩
  · cbv
    all_goals (obtain rfl := Lk.eq_std u; try simp only [Lk.std])
    all_goals (repeat' first | exact trivial | rfl | refine ⟨?_, ?_⟩)
  · rintro k ⟨hk, hj⟩
    cbv
    obtain rfl := Lk.eq_std u
    simp only [Lk.std] at hm ⊢
    have hlen : (l0.length : Int) = (l1.length : Int) := by simpa using hm
    have hq' : l0.length ≤ 4611686018427387904 := hq
    refine ⟨fun hlt => ?_, fun hge => ?_⟩
    · have hlt : (k : Int) < l0.length := by simpa using hlt
      rw [wrap_succ k (by omega)]
      refine ⟨?_, fun hb => ?_, fun hb => ?_⟩
      · exact ⟨⟨Int.natCast_nonneg k, hlt⟩, ⟨Int.natCast_nonneg k, Int.lt_of_lt_of_le hlt (Int.le_of_eq hlen)⟩, trivial⟩
      · have : sameM l0 l1 = false := by
          unfold sameM
          rw [decide_eq_false_iff_not]
          intro h; subst h
          simp [eqv] at hb
        rw [this]
      · refine ⟨k + 1, ⟨by omega, fun j hj' => ?_⟩, by omega, by (repeat' first | exact trivial | rfl | refine ⟨?_, ?_⟩)⟩
        by_cases hjk : j = k
        · subst hjk
          simp [eqv] at hb
          exact Prod.ext hb.1 hb.2
        · exact hj j (by omega)
    · have hge : ¬ (k : Int) < l0.length := by simpa using hge
      have : sameM l0 l1 = true := by
        unfold sameM
        rw [decide_eq_true_eq]
        refine List.ext_getElem (by omega) fun j h1 h2 => ?_
        have := hj j (by omega)
        rwa [atL_nat l0 j h1, atL_nat l1 j h2] at this
      rw [this]

theorem plain67 : Plainly Try.prog 67 := ⟨Try.f67, Try.func67, by kernel_rfl, by kernel_rfl⟩
theorem ok67 (u : Lk) : SpecOK Try.prog 67 (sameS u) := fun args q r h hq => by
  obtain ⟨l0, l1, rfl, rfl, rfl⟩ := sameS_spec h
  exact fn_ok (u := u) Try.func67 rfl fns_nil rfl rfl (walk67 u l0 l1 hq)

theorem star_at (v m : Hd) (i : Int) : byteAt ⟨#[48, 49, 42]⟩ (atM v m i) = charM (v, m) i := by
  unfold atM charM
  cases bitM m i <;> cases bitM v i <;> rfl

set_option maxRecDepth 100000 in
theorem walk83 (u : Lk) (v0 : Hd) (m0 : Hd) : Walk Try.f83 (Try.f83.body.getD .skip) [(56, atS u)] u [.pr (.hd v0) (.hd m0)] (.s (lk1 u textM (v0, m0))) := by
  intro L hL
  cbv
  refine hL Nat (fun k => k ≤ 104) (fun k => 104 - k)
    (fun k => ⟨[(4, .i .i64 (lk1 u (fun (k : Nat) => (k : Int)) k)), (3, .ow 5 (.sl .u8 (lk2 u charsM (v0, m0) k))), (1, .p 1 [] 0)], [(5, .own 5 .u8), (1, .box 36 (.pr (.hd v0) (.hd m0)))]⟩) _ _ _ 0 ?_ ?_ ?_ ?_
  · intro l st hk
    exact hk
  · simp
  · cbv
    all_goals (obtain rfl := Lk.eq_std u; try simp only [Lk.std])
    all_goals (repeat' first | exact trivial | rfl | refine ⟨?_, ?_⟩)
  · rintro k hk
    cbv
    obtain rfl := Lk.eq_std u
    simp only [Lk.std]
    have step : ∀ c : Int, charM (v0, m0) (k : Int) = c → (charsM (v0, m0) k).append [c] = charsM (v0, m0) (k + 1) := fun c hc => by rw [chars_succ, hc]; rfl
    have hlen : ∀ c : Int, lenS (.sl .u8 ((charsM (v0, m0) k).append [c])) = (k : Int) + 1 := fun c => by
      simp only [lenS, List.append_eq, List.length_append, chars_len, List.length_cons, List.length_nil]
      omega
    refine ⟨fun hlt => ?_, fun hge => ?_⟩
    · have hlt : (k : Int) < 104 := by simpa using hlt
      rw [wrap_succ k (by omega)]
      have hat := at_le v0 m0 (k : Nat)
      have hs : byteAt { data := { toList := [48, 49, 42] } } (atM v0 m0 (Int.ofNat k)) = charM (v0, m0) (k : Nat) := star_at v0 m0 (k : Nat)
      rw [hs, step _ rfl]
      refine ⟨⟨⟨⟨⟨hat.1, ?_⟩, trivial⟩, ?_⟩, trivial⟩, k + 1, by omega, by omega, by (repeat' first | exact trivial | rfl | refine ⟨?_, ?_⟩)⟩
      · show atM v0 m0 (k : Nat) < 3
        omega
      · rw [← step _ rfl, hlen]; omega
    · have hge : ¬ (k : Int) < 104 := by simpa using hge
      have : k = 104 := by omega
      rw [this]; rfl

theorem plain83 : Plainly Try.prog 83 := ⟨Try.f83, Try.func83, by kernel_rfl, by kernel_rfl⟩
theorem ok83 (u : Lk) : SpecOK Try.prog 83 (textS u) := fun args q r h hq => by
  obtain ⟨v0, m0, rfl, rfl⟩ := textS_spec h
  exact fn_ok (u := u) Try.func83 rfl (fns_cons plain56 (ok56 u) fns_nil) rfl rfl (walk83 u v0 m0)

def parseL (s : ByteArray) : Nat → Cu
  | 0 => (0, 0)
  | k + 1 => bif byteAt s (k : Nat) == 48 || byteAt s (k : Nat) == 49 then fixC (parseL s k) (k : Nat) (byteAt s (k : Nat) == 49) else parseL s k
def goodB (s : ByteArray) (k : Nat) : Bool := byteAt s (k : Nat) == 48 || byteAt s (k : Nat) == 49 || byteAt s (k : Nat) == 42
def parseOk (s : ByteArray) : Bool := s.size == 104 && (List.range 104).all (goodB s)
def parseC (s : ByteArray) : Cu := bif parseOk s then parseL s 104 else (0, 0)
def parseE (s : ByteArray) : Int := bif parseOk s then 0 else 12
theorem parse_bad {s : ByteArray} {k : Nat} (hk : k < 104) (h : goodB s k = false) : parseOk s = false := by
  unfold parseOk
  rw [Bool.and_eq_false_iff]
  right
  rw [List.all_eq_false]
  exact ⟨k, by simp; omega, by rw [h]; simp⟩

def parseS (u : Lk) : Spec
  | [.s s0] => some (True, (.tp (.pr (.hd (lk1 u (fun x0 => ((fun s => parseC s) x0).1) s0)) (.hd (lk1 u (fun x0 => ((fun s => parseC s) x0).2) s0))) (.i .i64 (lk1 u parseE s0))))
  | _ => none
theorem parseS_spec {u : Lk} {args : List SV} {q : Prop} {r : SV} (h : parseS u args = some (q, r)) : ∃ s0, args = [.s s0] ∧ r = (.tp (.pr (.hd (lk1 u (fun x0 => ((fun s => parseC s) x0).1) s0)) (.hd (lk1 u (fun x0 => ((fun s => parseC s) x0).2) s0))) (.i .i64 (lk1 u parseE s0))) := by
  unfold parseS at h
  split at h
  · simp only [Option.some.injEq, Prod.mk.injEq] at h
    exact ⟨_, rfl, h.2.symm⟩
  · cases h

set_option maxRecDepth 100000 in
theorem walk81 (u : Lk) (s0 : ByteArray) : Walk Try.f81 (Try.f81.body.getD .skip) [(72, allS u), (63, fixS u)] u [.s s0] (.tp (.pr (.hd (lk1 u (fun x0 => ((fun s => parseC s) x0).1) s0)) (.hd (lk1 u (fun x0 => ((fun s => parseC s) x0).2) s0))) (.i .i64 (lk1 u parseE s0))) := by
  intro L hL
  cbv
  refine (iff_of_eq (u.e3 _ _ _ _)).mpr ⟨fun hm => ?_, fun hm => ?_⟩
  · obtain rfl := Lk.eq_std u
    simp only [Lk.std] at hm ⊢
    have hno : (s0.size : Int) ≠ 104 := by simpa using hm
    have : parseOk s0 = false := by
      unfold parseOk
      have : (s0.size == 104) = false := by simp; omega
      rw [this]; rfl
    simp only [parseC, parseE, this, cond_false]
    (repeat' first | exact trivial | rfl | refine ⟨?_, ?_⟩)
  refine hL Nat (fun k => k ≤ 104 ∧ ∀ j, j < k → goodB s0 j = true) (fun k => 104 - k)
    (fun k => ⟨[(11, .i .i64 (lk1 u (fun (k : Nat) => (k : Int)) k)), (4, .p 4 [] 0), (2, .p 2 [] 0), (0, .s s0)], [(4, .box 36 (.pr (.hd (lk2 u (fun s (k : Nat) => (parseL s k).1) s0 k)) (.hd (lk2 u (fun s (k : Nat) => (parseL s k).2) s0 k)))), (2, .box 36 (.pr (.hd 0) (.hd 0)))]⟩) _ _ _ 0 ?_ ?_ ?_ ?_
  · intro l st hk
    exact hk
  · exact ⟨by simp, fun j hj => by omega⟩
  · cbv
    all_goals (obtain rfl := Lk.eq_std u; try simp only [Lk.std])
    all_goals (repeat' first | exact trivial | rfl | refine ⟨?_, ?_⟩)
  · rintro k ⟨hk, hj⟩
    cbv
    obtain rfl := Lk.eq_std u
    simp only [Lk.std] at hm ⊢
    have hlen : (s0.size : Int) = 104 := by simpa using hm
    refine ⟨fun hlt => ?_, fun hge => ?_⟩
    · have hlt : (k : Int) < 104 := by simpa using hlt
      rw [wrap_succ k (by omega)]
      have hin : (0 : Int) ≤ Int.ofNat k ∧ Int.ofNat k < (s0.size : Int) := ⟨Int.natCast_nonneg k, by rw [hlen]; exact hlt⟩
      have fin : ∀ b : Bool, goodB s0 k = true → ∀ j, j < k + 1 → goodB s0 j = true := fun _ hg j hj' => by
        by_cases hjk : j = k
        · rw [hjk]; exact hg
        · exact hj j (by omega)
      have yes : ∀ c : Int, byteAt s0 (Int.ofNat k) = c → c = 48 ∨ c = 49 → goodB s0 k = true ∧ parseL s0 (k + 1) = fixC ((parseL s0 k).1, (parseL s0 k).2) (Int.ofNat k) (decide (byteAt s0 (Int.ofNat k) = 49)) := fun c hc hor => by
        have hc : byteAt s0 (k : Nat) = c := hc
        show _ ∧ (bif byteAt s0 (k : Nat) == 48 || byteAt s0 (k : Nat) == 49 then fixC (parseL s0 k) (k : Nat) (byteAt s0 (k : Nat) == 49) else parseL s0 k) = fixC (parseL s0 k) (k : Nat) (byteAt s0 (k : Nat) == 49)
        rcases hor with rfl | rfl <;> simp [goodB, hc]
      refine ⟨hin, fun a => ⟨fun b => ?_, fun b => absurd (a.symm.trans b) (by simp)⟩, fun a => ⟨fun b => ?_, fun b => ⟨fun c => ?_, fun c => ?_⟩⟩⟩
      · obtain ⟨hg, e⟩ := yes 48 (by simpa using a) (.inl rfl)
        refine ⟨⟨hin, trivial⟩, k + 1, ⟨by omega, fin true hg⟩, by omega, ?_⟩
        simp only [lk1, lk2, e]
        (repeat' first | exact trivial | rfl | refine ⟨?_, ?_⟩)
      · obtain ⟨hg, e⟩ := yes 49 (by simpa using b) (.inr rfl)
        refine ⟨⟨hin, trivial⟩, k + 1, ⟨by omega, fin true hg⟩, by omega, ?_⟩
        simp only [lk1, lk2, e]
        (repeat' first | exact trivial | rfl | refine ⟨?_, ?_⟩)
      · have h1 : (byteAt s0 (k : Nat) == 48) = false := a
        have h2 : (byteAt s0 (k : Nat) == 49) = false := b
        have h3 : (byteAt s0 (k : Nat) == 42) = true := c
        have e : parseL s0 (k + 1) = parseL s0 k := by simp only [parseL, h1, h2, Bool.or_self, cond_false]
        refine ⟨k + 1, ⟨by omega, fin true (by simp only [goodB, h1, h2, h3, Bool.or_true])⟩, by omega, ?_⟩
        simp only [lk1, lk2, e]
        (repeat' first | exact trivial | rfl | refine ⟨?_, ?_⟩)
      · have h1 : (byteAt s0 (k : Nat) == 48) = false := a
        have h2 : (byteAt s0 (k : Nat) == 49) = false := b
        have h3 : (byteAt s0 (k : Nat) == 42) = false := c
        have : parseOk s0 = false := parse_bad (k := k) (by omega) (by simp only [goodB, h1, h2, h3, Bool.or_self])
        simp only [parseC, parseE, this, cond_false]
        (repeat' first | exact trivial | rfl | refine ⟨?_, ?_⟩)
    · have hge : ¬ (k : Int) < 104 := by simpa using hge
      have : k = 104 := by omega
      subst this
      have : parseOk s0 = true := by
        unfold parseOk
        rw [Bool.and_eq_true, List.all_eq_true]
        exact ⟨by simp; omega, fun j hj' => hj j (List.mem_range.1 hj')⟩
      simp only [parseC, parseE, this, cond_true]
      (repeat' first | exact trivial | rfl | refine ⟨?_, ?_⟩)

theorem plain81 : Plainly Try.prog 81 := ⟨Try.f81, Try.func81, by kernel_rfl, by kernel_rfl⟩
theorem ok81 (u : Lk) : SpecOK Try.prog 81 (parseS u) := fun args q r h hq => by
  obtain ⟨s0, rfl, rfl⟩ := parseS_spec h
  exact fn_ok (u := u) Try.func81 rfl (fns_cons plain72 (ok72 u) (fns_cons plain63 (ok63 u) fns_nil)) rfl rfl (walk81 u s0)

def rparseL (s : ByteArray) : Nat → Cu
  | 0 => (0, 0)
  | k + 1 => bif byteAt s (k : Nat) == 48 then (setV (rparseL s k).1 (k : Nat) 0, setK (rparseL s k).2 (k : Nat) 0) else
      bif byteAt s (k : Nat) == 49 then (setV (rparseL s k).1 (k : Nat) 1, setK (rparseL s k).2 (k : Nat) 1) else rparseL s k
def rparseOk (s : ByteArray) : Bool := s.size == 104 && (textM (rparseL s 104)).toList == s.toList
def rparseC (s : ByteArray) : Cu := bif rparseOk s then rparseL s 104 else (0, 0)
def rparseE (s : ByteArray) : Int := bif rparseOk s then 0 else 12

def rparseS (u : Lk) : Spec
  | [.s s0] => some (True, (.tp (.pr (.hd (lk1 u (fun x0 => ((fun s => rparseC s) x0).1) s0)) (.hd (lk1 u (fun x0 => ((fun s => rparseC s) x0).2) s0))) (.i .i64 (lk1 u rparseE s0))))
  | _ => none
theorem rparseS_spec {u : Lk} {args : List SV} {q : Prop} {r : SV} (h : rparseS u args = some (q, r)) : ∃ s0, args = [.s s0] ∧ r = (.tp (.pr (.hd (lk1 u (fun x0 => ((fun s => rparseC s) x0).1) s0)) (.hd (lk1 u (fun x0 => ((fun s => rparseC s) x0).2) s0))) (.i .i64 (lk1 u rparseE s0))) := by
  unfold rparseS at h
  split at h
  · simp only [Option.some.injEq, Prod.mk.injEq] at h
    exact ⟨_, rfl, h.2.symm⟩
  · cases h

set_option maxRecDepth 100000 in
theorem walk82 (u : Lk) (s0 : ByteArray) : Walk Try.f82 (Try.f82.body.getD .skip) [(57, setS u), (83, textS u)] u [.s s0] (.tp (.pr (.hd (lk1 u (fun x0 => ((fun s => rparseC s) x0).1) s0)) (.hd (lk1 u (fun x0 => ((fun s => rparseC s) x0).2) s0))) (.i .i64 (lk1 u rparseE s0))) := by
  intro L hL
  cbv
  refine (iff_of_eq (u.e3 _ _ _ _)).mpr ⟨fun hm => ?_, fun hm => ?_⟩
  · obtain rfl := Lk.eq_std u
    simp only [Lk.std] at hm ⊢
    have hno : (s0.size : Int) ≠ 104 := by simpa using hm
    have : rparseOk s0 = false := by
      unfold rparseOk
      have : (s0.size == 104) = false := by simp; omega
      rw [this]; rfl
    simp only [rparseC, rparseE, this, cond_false]
    (repeat' first | exact trivial | rfl | refine ⟨?_, ?_⟩)
  refine hL Nat (fun k => k ≤ 104) (fun k => 104 - k)
    (fun k => ⟨[(5, .i .i64 (lk1 u (fun (k : Nat) => (k : Int)) k)), (4, .p 4 [] 0), (2, .p 2 [] 0), (0, .s s0)], [(4, .box 36 (.pr (.hd (lk2 u (fun s (k : Nat) => (rparseL s k).1) s0 k)) (.hd (lk2 u (fun s (k : Nat) => (rparseL s k).2) s0 k)))), (2, .box 36 (.pr (.hd 0) (.hd 0)))]⟩) _ _ _ 0 ?_ ?_ ?_ ?_
  · intro l st hk
    exact hk
  · simp
  · cbv
    all_goals (obtain rfl := Lk.eq_std u; try simp only [Lk.std])
    all_goals (repeat' first | exact trivial | rfl | refine ⟨?_, ?_⟩)
  · rintro k hk
    cbv
    obtain rfl := Lk.eq_std u
    simp only [Lk.std] at hm ⊢
    have hlen : (s0.size : Int) = 104 := by simpa using hm
    refine ⟨fun hlt => ?_, fun hge => ?_⟩
    · have hlt : (k : Int) < 104 := by simpa using hlt
      rw [wrap_succ k (by omega)]
      have hin : (0 : Int) ≤ Int.ofNat k ∧ Int.ofNat k < (s0.size : Int) := ⟨Int.natCast_nonneg k, by rw [hlen]; exact hlt⟩
      refine ⟨⟨hin, trivial⟩, fun a => ⟨⟨hin, trivial⟩, fun b => ?_, fun b => ?_⟩, fun a => ⟨⟨hin, trivial⟩, fun b => ?_, fun b => ?_⟩⟩
      · have h1 : byteAt s0 (k : Nat) = 48 := by simpa using a
        have h2 : byteAt s0 (k : Nat) = 49 := by simpa using b
        omega
      · have h1 : (byteAt s0 (k : Nat) == 48) = true := a
        have e : rparseL s0 (k + 1) = (setV (rparseL s0 k).1 (k : Nat) 0, setK (rparseL s0 k).2 (k : Nat) 0) := by simp only [rparseL, h1, cond_true]
        refine ⟨k + 1, by omega, by omega, ?_⟩
        simp only [lk1, lk2, e]
        (repeat' first | exact trivial | rfl | refine ⟨?_, ?_⟩)
      · have h1 : (byteAt s0 (k : Nat) == 48) = false := a
        have h2 : (byteAt s0 (k : Nat) == 49) = true := b
        have e : rparseL s0 (k + 1) = (setV (rparseL s0 k).1 (k : Nat) 1, setK (rparseL s0 k).2 (k : Nat) 1) := by simp only [rparseL, h1, h2, cond_true, cond_false]
        refine ⟨k + 1, by omega, by omega, ?_⟩
        simp only [lk1, lk2, e]
        (repeat' first | exact trivial | rfl | refine ⟨?_, ?_⟩)
      · have h1 : (byteAt s0 (k : Nat) == 48) = false := a
        have h2 : (byteAt s0 (k : Nat) == 49) = false := b
        have e : rparseL s0 (k + 1) = rparseL s0 k := by simp only [rparseL, h1, h2, cond_false]
        refine ⟨k + 1, by omega, by omega, ?_⟩
        simp only [lk1, lk2, e]
        (repeat' first | exact trivial | rfl | refine ⟨?_, ?_⟩)
    · have hge : ¬ (k : Int) < 104 := by simpa using hge
      have : k = 104 := by omega
      subst this
      have hsz : (s0.size == 104) = true := by simp; omega
      refine ⟨fun a => ?_, fun a => ?_⟩
      · have : rparseOk s0 = false := by
          unfold rparseOk
          rw [hsz, Bool.true_and]
          simpa using a
        simp only [rparseC, rparseE, this, cond_false]
        (repeat' first | exact trivial | rfl | refine ⟨?_, ?_⟩)
      · have : rparseOk s0 = true := by
          unfold rparseOk
          rw [hsz, Bool.true_and]
          simpa using a
        simp only [rparseC, rparseE, this, cond_true]
        (repeat' first | exact trivial | rfl | refine ⟨?_, ?_⟩)

theorem plain82 : Plainly Try.prog 82 := ⟨Try.f82, Try.func82, by kernel_rfl, by kernel_rfl⟩
theorem ok82 (u : Lk) : SpecOK Try.prog 82 (rparseS u) := fun args q r h hq => by
  obtain ⟨s0, rfl, rfl⟩ := rparseS_spec h
  exact fn_ok (u := u) Try.func82 rfl (fns_cons plain57 (ok57 u) (fns_cons plain83 (ok83 u) fns_nil)) rfl rfl (walk82 u s0)

end Mx
