/- Code, loops, functions. Own work; any program. -/
import Derived.Test.YtlnofclfpcmneaaXf
import Derived.Scope
import Derived.Deep.LoopGhost
namespace Mx
open Go Go.RowKit
abbrev Post := Exit → St → Prop
def seqK (k : St → Prop) (K : Post) : Post := fun e s => match e with | .normal => k s | e => K e s
def blockK (id : Nat) (K : Post) : Post := fun e s => match e with | .exit i => bif i == id then K .normal s else K (.exit i) s | e => K e s
def LessT (g : List (Nat × SV)) : List (Nat × SV) → Prop
  | [] => True
  | (t, x) :: r => (match getT g t with | some y => lessV y x | none => False) ∧ LessT g r
def LessM (m : List (Nat × Ent)) : List (Nat × Ent) → Prop
  | [] => True
  | (k, e) :: r => lessE (ent m k) e ∧ LessM m r
def Less (s' s : St) : Prop := LessT s.tmps s'.tmps ∧ LessM s.mem s'.mem
structure Fx where
  cx : Ctx
  nt : Nat
  keep : Option Nat
/-- what is no longer asked for is forgotten (behind a region) -/
def trimT (keep : Nat) : Nat → List (Nat × SV) → List (Nat × SV)
  | _, [] => []
  | seen, (t, x) :: r => match keep.testBit t && !seen.testBit t with | true => (t, x) :: trimT keep (seen ||| 2 ^ t) r | false => trimT keep seen r
def trimM : Nat → List (Nat × Ent) → List (Nat × Ent)
  | _, [] => []
  | seen, (t, x) :: r => match seen.testBit t with | true => trimM seen r | false => (t, x) :: trimM (seen ||| 2 ^ t) r
def trimK : Option Nat → Post → Post
  | none, K => K
  | some k, K => fun e st => match e with | .normal => K .normal ⟨trimT k 0 st.tmps, trimM 0 st.mem⟩ | e => K e st
def regionX (F : Fx) (D : Nat → Array Oper → Post → St → Prop) (id : Nat) (ops : Array Oper) (draw : Bool) (K : Post) (st : St) : Prop :=
  match draw with
  | true => D id ops K st
  | false => match evalL F.cx F.nt ops ops.toList True st with
    | some (q, st') => q ∧ K .normal st'
    | none => False
def wpX (F : Fx) (D : Nat → Array Oper → Post → St → Prop) (L : Code → Post → St → Prop) : Code → Post → St → Prop
  | .skip, K, st => K .normal st
  | .region id ops draw, K, st => regionX F D id ops draw (trimK F.keep K) st
  | .seq a b, K, st => wpX F D L a (seqK (wpX F D L b K) K) st
  | .cond c t e, K, st =>
    match operand (getT st.tmps) c with
    | some (.b x) => lq3 F.cx.u (fun (x : Bool) (p q : Prop) => (x = true → p) ∧ (x = false → q)) x (wpX F D L t K st) (wpX F D L e K st)
    | _ => False
  | .block id c, K, st => wpX F D L c (blockK id K) st
  | .exit id, K, st => K (.exit id) st
  | .scope c, K, st => wpX F D L c K st
  | .label _, K, st => K .normal st
  | .ret, K, st => K .ret st
  | .loop c, K, st => L c K st
  | _, _, _ => False
section
variable {P : Program} {F : Fx} {w0 : World} {ok0 : Nat → Nat → Prop} {D : Nat → Array Oper → Post → St → Prop} {L : Code → Post → St → Prop}
/-- what wpX says of the machine -/
def Means (P : Program) (nt : Nat) (w0 : World) (ok0 : Nat → Nat → Prop) (c : Code) (K : Post) (st : St) : Prop :=
  ∀ ok V a w (Q : Exit → Act → World → Prop), Rep nt w0 ok0 ok V (getT st.tmps) (ent st.mem) a w →
    (∀ e st' ok' V' a' w', K e st' → Rep nt w0 ok0 ok' V' (getT st'.tmps) (ent st'.mem) a' w' → Q e a' w') → c.wp P Q a w
/-- a condition that no jump by a label leaves -/
def NoGoto (K : Post) : Prop := ∀ l st, ¬ K (.goto l) st
theorem less_rep {nt : Nat} {ok : Nat → Nat → Prop} {V : Env} {a : Act} {w : World} {s s' : St} (h : Less s' s) (R : Rep nt w0 ok0 ok V (getT s.tmps) (ent s.mem) a w) : Rep nt w0 ok0 ok V (getT s'.tmps) (ent s'.mem) a w := by
  refine R.less (fun t x ht => .inr ?_) (fun j => ?_)
  · have : ∀ l : List (Nat × SV), LessT s.tmps l → getT l t = some x → ∃ y, getT s.tmps t = some y ∧ lessV y x := by
      intro l
      induction l with
      | nil => intro _ h; simp [getT] at h
      | cons p r ih =>
        obtain ⟨k, y⟩ := p
        intro hl hg
        simp only [getT] at hg
        cases hk : (k == t) with
        | true =>
          simp only [hk, cond_true, Option.some.injEq] at hg
          obtain rfl : k = t := by simpa using hk
          rw [← hg]
          have h1 := hl.1
          cases hs : getT s.tmps k with
          | none => rw [hs] at h1; exact h1.elim
          | some z => rw [hs] at h1; exact ⟨z, rfl, h1⟩
        | false => simp only [hk, cond_false] at hg; exact ih hl.2 hg
    obtain ⟨y, h1, h2⟩ := this _ h.1 ht
    exact ⟨y, h1, .inl h2⟩
  · have : ∀ m : List (Nat × Ent), LessM s.mem m → lessE (ent s.mem j) (ent m j) := by
      intro m
      induction m with
      | nil => intro _; unfold lessE; trivial
      | cons p r ih =>
        obtain ⟨k, y⟩ := p
        intro hl
        simp only [ent]
        cases hk : (k == j) with
        | true =>
          obtain rfl : k = j := by simpa using hk
          exact hl.1
        | false => exact ih hl.2
    exact this _ h.2
theorem seen_bit (seen t u : Nat) : (seen ||| 2 ^ t).testBit u = (seen.testBit u || decide (t = u)) := by
  rw [Nat.testBit_or, Nat.testBit_two_pow]
theorem trimT_get (keep : Nat) : ∀ (l : List (Nat × SV)) (seen t : Nat) (x : SV), getT (trimT keep seen l) t = some x → seen.testBit t = false ∧ getT l t = some x
  | [], _, _, _, h => by simp [trimT, getT] at h
  | (k, y) :: r, seen, t, x, h => by
    simp only [trimT] at h
    cases hk : keep.testBit k && !seen.testBit k with
    | false =>
      rw [hk] at h
      simp only at h
      obtain ⟨h1, h2⟩ := trimT_get keep r seen t x h
      refine ⟨h1, ?_⟩
      simp only [getT]
      cases hkt : (k == t) with
      | false => exact h2
      | true =>
        obtain rfl : k = t := by simpa using hkt
        exfalso
        rw [h1, Bool.not_false, Bool.and_true] at hk
        have : ∀ (l : List (Nat × SV)) (seen : Nat), getT (trimT keep seen l) k = none := by
          intro l
          induction l with
          | nil => intro _; rfl
          | cons p r ih =>
            obtain ⟨j, z⟩ := p
            intro seen
            simp only [trimT]
            cases hj : keep.testBit j && !seen.testBit j with
            | false => simp only; exact ih seen
            | true =>
              simp only [getT]
              have : (j == k) = false := by
                rw [beq_eq_false_iff_ne]
                rintro rfl
                rw [hk, Bool.false_and] at hj; cases hj
              rw [this]; exact ih _
        rw [this r seen] at h; cases h
    | true =>
      rw [hk] at h
      simp only at h
      rw [Bool.and_eq_true, Bool.not_eq_true'] at hk
      simp only [getT] at h ⊢
      cases hkt : (k == t) with
      | true =>
        obtain rfl : k = t := by simpa using hkt
        rw [hkt] at h
        simp only at h
        exact ⟨hk.2, h⟩
      | false =>
        rw [hkt] at h
        simp only at h
        obtain ⟨h1, h2⟩ := trimT_get keep r _ t x h
        rw [seen_bit, Bool.or_eq_false_iff] at h1
        exact ⟨h1.1, h2⟩
theorem trimM_ent : ∀ (m : List (Nat × Ent)) (seen j : Nat), seen.testBit j = false → ent (trimM seen m) j = ent m j
  | [], _, _, _ => rfl
  | (k, y) :: r, seen, j, h => by
    simp only [trimM]
    cases hk : seen.testBit k with
    | true =>
      simp only
      rw [trimM_ent r seen j h, ent]
      have : (k == j) = false := by
        rw [beq_eq_false_iff_ne]
        rintro rfl
        rw [h] at hk; cases hk
      rw [this]
    | false =>
      simp only
      rw [ent, ent]
      cases hkj : (k == j) with
      | true => rfl
      | false =>
        simp only
        refine trimM_ent r _ j ?_
        rw [seen_bit, h, Bool.false_or, decide_eq_false_iff_not]
        rintro rfl
        simp at hkj
theorem trim_rep {nt : Nat} {ok : Nat → Nat → Prop} {V : Env} {a : Act} {w : World} {s : St} (k : Nat) (R : Rep nt w0 ok0 ok V (getT s.tmps) (ent s.mem) a w) :
    Rep nt w0 ok0 ok V (getT (trimT k 0 s.tmps)) (ent (trimM 0 s.mem)) a w := by
  refine R.less (fun t x ht => .inr ⟨x, (trimT_get k _ 0 t x ht).2, .inl (lessV_refl x)⟩) (fun j => ?_)
  rw [trimM_ent _ 0 j (Nat.zero_testBit j)]
  unfold lessE
  split <;> first | trivial | simp_all
theorem Means.trim {c : Code} {K : Post} {st : St} {k : Option Nat} {nt : Nat} (h : Means P nt w0 ok0 c (trimK k K) st) : Means P nt w0 ok0 c K st := by
  cases k with
  | none => exact h
  | some k =>
    intro ok V a w Q R hQ
    refine h ok V a w Q R fun e st' ok' V' a' w' hk R' => ?_
    cases e with
    | normal => exact hQ _ _ _ _ _ _ hk (trim_rep k R')
    | _ => exact hQ _ _ _ _ _ _ hk R'
theorem wpX_means (C : TysOK P F.cx.tys) (G : FnsOK P F.cx.fns) (hD : ∀ ops K st id, D id ops K st → Means P F.nt w0 ok0 (.region id ops true) K st) (hL : ∀ c K st, L c K st → Means P F.nt w0 ok0 (.loop c) K st) :
    ∀ (c : Code) {K : Post} {st : St}, wpX F D L c K st → NoGoto K → Means P F.nt w0 ok0 c K st := by
  intro c
  induction c with
  | skip => exact fun h _ ok V a w Q R hQ => wp_skip (hQ _ _ _ _ _ _ h R)
  | region id ops draw =>
    intro K st h _ ok V a w Q R hQ
    refine Means.trim (k := F.keep) ?_ ok V a w Q R hQ
    clear R hQ Q w a V ok
    intro ok V a w Q R hQ
    cases draw with
    | true => exact hD ops _ st id h ok V a w Q R hQ
    | false =>
      simp only [wpX, regionX, cond_false] at h
      split at h
      · rename_i q st' he
        exact wp_region_list (evalL_wp C G ops.toList R he h.1 fun ok' V' a' w' R' => hQ _ _ _ _ _ _ h.2 R')
      · exact h.elim
  | seq x y ihx ihy =>
    intro K st h hn ok V a w Q R hQ
    refine wp_seq (ihx h (fun l s hl => hn l s hl) ok V a w _ R fun e st' ok' V' a' w' hk R' => ?_)
    cases e with
    | normal => exact ihy hk hn ok' V' a' w' Q R' hQ
    | _ => exact hQ _ _ _ _ _ _ hk R'
  | cond c t e iht ihe =>
    intro K st h hn ok V a w Q R hQ
    simp only [wpX] at h
    split at h
    · rename_i x hx
      have := rel_b (R.operand hx)
      unfold lq3 at h
      rw [F.cx.u.e3] at h
      exact wp_cond_split this (fun hx => iht (h.1 hx) hn ok V a w Q R hQ) (fun hx => ihe (h.2 hx) hn ok V a w Q R hQ)
    · exact h.elim
  | block id c ih =>
    intro K st h hn ok V a w Q R hQ
    refine wp_block (ih h (fun l s hl => hn l s hl) ok V a w _ R fun e st' ok' V' a' w' hk R' => ?_)
    cases e with
    | exit i =>
      simp only [blockK] at hk
      cases hi : (i == id) with
      | true =>
        simp only [hi, cond_true] at hk
        obtain rfl : i = id := by simpa using hi
        simp only [Exit.inBlock, if_true]
        exact hQ _ _ _ _ _ _ hk R'
      | false =>
        simp only [hi, cond_false] at hk
        have : i ≠ id := by simpa using hi
        simp only [Exit.inBlock, if_neg this]
        exact hQ _ _ _ _ _ _ hk R'
    | _ => exact hQ _ _ _ _ _ _ hk R'
  | exit id => exact fun h _ ok V a w Q R hQ => wp_exit (hQ _ _ _ _ _ _ h R)
  | scope c ih =>
    intro K st h hn ok V a w Q R hQ
    refine wp_scope_straight (ih h hn ok V a w _ R fun e st' ok' V' a' w' hk R' => ?_)
    cases e with
    | goto l => exact (hn l st' hk).elim
    | _ => exact hQ _ _ _ _ _ _ hk R'
  | label l => exact fun h _ ok V a w Q R hQ => wp_label (hQ _ _ _ _ _ _ h R)
  | ret => exact fun h _ ok V a w Q R hQ => wp_ret (hQ _ _ _ _ _ _ h R)
  | loop c _ => exact fun h _ => hL c _ _ h
  | _ => exact fun h => h.elim
/-- THE RULE OF A LOOP: states told by numbers or data s. -/
def LoopRule (F : Fx) (D : Nat → Array Oper → Post → St → Prop) (L : Code → Post → St → Prop) : Prop :=
  ∀ (σ : Type) (inv : σ → Prop) (μ : σ → Nat) (f : σ → St) (c : Code) (K : Post) (st : St) (s0 : σ), NoGoto K → inv s0 → Less (f s0) st →
    (∀ s, inv s → wpX F D L c (seqK (fun st' => ∃ s', inv s' ∧ μ s' < μ s ∧ Less (f s') st') K) (f s)) → L c K st
theorem loopRule_means (C : TysOK P F.cx.tys) (G : FnsOK P F.cx.fns) (hD : ∀ ops K st id, D id ops K st → Means P F.nt w0 ok0 (.region id ops true) K st) :
    ∀ (σ : Type) (inv : σ → Prop) (μ : σ → Nat) (f : σ → St) (c : Code) (K : Post) (st : St) (s0 : σ), NoGoto K → inv s0 → Less (f s0) st →
    (∀ s, inv s → wpX F D (fun c K st => Means P F.nt w0 ok0 (.loop c) K st) c (seqK (fun st' => ∃ s', inv s' ∧ μ s' < μ s ∧ Less (f s') st') K) (f s)) → Means P F.nt w0 ok0 (.loop c) K st := by
  intro σ inv μ f c K st s0 hn h0 hl hr ok V a w Q R hQ
  refine wp_loop_ghost (fun n a w => ∃ s ok V, inv s ∧ μ s = n ∧ Rep F.nt w0 ok0 ok V (getT (f s).tmps) (ent (f s).mem) a w) (μ s0) ⟨s0, ok, V, h0, rfl, less_rep hl R⟩ ?_
  rintro n a w ⟨s, ok, V, hs, rfl, R⟩
  refine wpX_means C G hD (fun _ _ _ h => h) c (hr s hs) (fun l s' h => hn l s' h) ok V a w _ R fun e st' ok' V' a' w' hk R' => ?_
  cases e with
  | normal =>
    obtain ⟨s', hs', hm, hless⟩ := hk
    exact ⟨μ s', hm, s', ok', V', hs', rfl, less_rep hless R'⟩
  | _ => exact hQ _ _ _ _ _ _ hk R'
/-! ### a function -/
def args0 : Nat → List SV → List (Nat × SV)
  | _, [] => []
  | k, x :: r => (k, x) :: args0 (k + 1) r
def resV (cx : Ctx) (st : St) : ResultVar → Option SV
  | .tmp t => getT st.tmps t
  | .cell t ty => (getT st.tmps t).bind fun a => (tyOf cx.tys ty).bind fun ti =>
    match a with
    | .p j q o => match ent st.mem j with
      | .box _ y => (sub y q).bind fun z => bif fits ti z && off y q == o then some z else none
      | _ => none
    | _ => none
def resL (cx : Ctx) (st : St) : List ResultVar → Option SV
  | [] => none
  | [r] => (resV cx st r).bind fun x => bif plain1 x then some x else none
  | r :: rs => (resV cx st r).bind fun x => (resL cx st rs).bind fun y => bif plain1 x then some (.tp x y) else none
/-- the function's end: it answers r -/
def Fin (cx : Ctx) (rs : List ResultVar) (r : SV) : Post
  | .ret, st => match resL cx st rs with | some x => lessV x r | none => False
  | .normal, st => match resL cx st rs with | some x => lessV x r | none => False
  | _, _ => False
theorem fin_noGoto {cx : Ctx} {rs : List ResultVar} {r : SV} : NoGoto (Fin cx rs r) := fun _ _ h => h
def resS (tmps : Array Value) : ResultVar → Sem Value
  | .tmp t => pure (tmps.getD t undef)
  | .cell a t => do loadVar t (← asAddr (tmps.getD a undef))
theorem resV_run (C : TysOK P F.cx.tys) {nt : Nat} {ok : Nat → Nat → Prop} {V : Env} {st : St} {a : Act} {w : World} (R : Rep nt w0 ok0 ok V (getT st.tmps) (ent st.mem) a w) {rv : ResultVar} {x : SV} (h : resV F.cx st rv = some x) (hx : plain1 x = true) :
    ∃ v, (resS a.tmps rv).run P w = .ok v w ∧ rel1 ok w V x v := by
  cases rv with
  | tmp t => exact ⟨_, rfl, rel1_of_plain hx (R.tmps t x h)⟩
  | cell t ty =>
    simp only [resV, Option.bind_eq_some_iff] at h
    obtain ⟨av, ha, ti, hT, h⟩ := h
    split at h
    · rename_i j q o
      have hv := rel_p (R.tmps t _ ha)
      split at h
      · rename_i bt y hE
        simp only [Option.bind_eq_some_iff] at h
        obtain ⟨z, hs, h⟩ := h
        cases hb : (fits ti z && off y q == o) with
        | false => simp [hb] at h
        | true =>
          simp only [hb, cond_true, Option.some.injEq] at h
          subst h
          simp only [Bool.and_eq_true, beq_iff_eq] at hb
          obtain ⟨v, h1, h2⟩ := load_box C R hT hE hs hb.1 hb.2
          exact ⟨v, by simp only [resS, hv, asAddr, Sem.run_bind, Sem.run_pure, Result.andThen_ok, h1], rel1_of_plain hx h2⟩
      · cases h
    · cases h
theorem resL_run (C : TysOK P F.cx.tys) {nt : Nat} {ok : Nat → Nat → Prop} {V : Env} {st : St} {a : Act} {w : World} (R : Rep nt w0 ok0 ok V (getT st.tmps) (ent st.mem) a w) : ∀ {rs : List ResultVar} {x : SV}, resL F.cx st rs = some x →
    ∃ vs, (rs.mapM (resS a.tmps)).run P w = .ok vs w ∧ relL ok w V x vs ∧ vs.length = rs.length ∧ (rs.length = 1 → plain1 x = true) ∧ (rs.length ≠ 1 → plain1 x = false ∧ ∃ y z, x = .tp y z)
  | [], x, h => by simp [resL] at h
  | [r], x, h => by
    simp only [resL, Option.bind_eq_some_iff] at h
    obtain ⟨y, hy, h⟩ := h
    cases hx : plain1 y with
    | false => simp [hx] at h
    | true =>
      simp only [hx, cond_true, Option.some.injEq] at h
      subst h
      obtain ⟨v, h1, h2⟩ := resV_run C R hy hx
      refine ⟨[v], by simp [List.mapM_cons, h1], ?_, rfl, fun _ => hx, fun h => absurd rfl h⟩
      cases y <;> first | exact ⟨v, rfl, h2⟩ | simp [plain1] at hx
  | r :: r' :: rs, x, h => by
    simp only [resL, Option.bind_eq_some_iff] at h
    obtain ⟨y, hy, z, hz, h⟩ := h
    cases hx : plain1 y with
    | false => simp [hx] at h
    | true =>
      simp only [hx, cond_true, Option.some.injEq] at h
      subst h
      obtain ⟨v, h1, h2⟩ := resV_run C R hy hx
      obtain ⟨vs, h3, h4, h5, _⟩ := resL_run C R (rs := r' :: rs) hz
      exact ⟨v :: vs, by rw [List.mapM_cons, Sem.run_bind, h1, Result.andThen_ok, Sem.run_bind, h3]; rfl, ⟨v, vs, rfl, h2, h4⟩, by simp [h5], fun h => by simp at h, fun _ => ⟨rfl, _, _, rfl⟩⟩
theorem results_run (C : TysOK P F.cx.tys) {nt : Nat} {ok : Nat → Nat → Prop} {V : Env} {st : St} {a : Act} {w : World} (R : Rep nt w0 ok0 ok V (getT st.tmps) (ent st.mem) a w) {fn : Func} {x : SV} (h : resL F.cx st fn.results.toList = some x) :
    ∃ v, (results fn a.tmps).run P w = .ok v w ∧ relV ok w V x v := by
  obtain ⟨vs, h1, h2, h3, h4, h5⟩ := resL_run C R h
  have hm : (fn.results.mapM (resS a.tmps)).run P w = .ok vs.toArray w := by
    rw [Array.mapM_eq_mapM_toList]
    simp [h1]
  have hr : (results fn a.tmps).run P w = .ok (if h : vs.toArray.size = 1 then vs.toArray[0] else .tuple vs.toArray) w := by
    have e : results fn a.tmps = (do let vs ← fn.results.mapM (resS a.tmps); pure (if h : vs.size = 1 then vs[0] else .tuple vs)) := by
      unfold results
      congr 2
    rw [e, Sem.run_bind, hm]
    rfl
  refine ⟨_, hr, ?_⟩
  by_cases hl : fn.results.toList.length = 1
  · have hp := h4 hl
    match vs, h3.trans hl, h2 with
    | [v], _, h2 =>
      have : rel1 ok w V x v := by
        cases x <;> first | (obtain ⟨u, hu, hr⟩ := h2; injection hu with hu _; subst hu; exact hr) | simp [plain1] at hp
      simpa using relV_of_rel1 this
  · obtain ⟨_, y, z, rfl⟩ := h5 hl
    rw [dif_neg (by simp; omega)]
    exact ⟨vs, rfl, h2⟩
theorem args_rel {ok : Nat → Nat → Prop} {V : Env} {w : World} : ∀ {xs : List SV} {vs : List Value} {k : Nat} {t : Nat} {x : SV}, relAll ok w V xs vs → getT (args0 k xs) t = some x → ∃ v, vs[t - k]? = some v ∧ k ≤ t ∧ relV ok w V x v
  | [], _, _, _, _, _, h => by simp [args0, getT] at h
  | _ :: _, [], _, _, _, hr, _ => hr.elim
  | y :: xs, v :: vs, k, t, x, ⟨h1, h2⟩, h => by
    simp only [args0, getT] at h
    cases hk : (k == t) with
    | true =>
      simp only [hk, cond_true, Option.some.injEq] at h
      obtain rfl : k = t := by simpa using hk
      subst h
      exact ⟨v, by simp, Nat.le_refl _, h1⟩
    | false =>
      simp only [hk, cond_false] at h
      obtain ⟨u, hu, hle, hr⟩ := args_rel h2 h
      refine ⟨u, ?_, by omega, hr⟩
      rw [show t - k = (t - (k + 1)) + 1 by omega]
      simpa using hu
theorem relAll_length {ok : Nat → Nat → Prop} {V : Env} {w : World} : ∀ {xs : List SV} {vs : List Value}, relAll ok w V xs vs → xs.length = vs.length
  | [], _, h => by rw [show _ = [] from h]; rfl
  | _ :: _, [], h => h.elim
  | _ :: _, _ :: _, ⟨_, h⟩ => by simp [relAll_length h]
/-- A FUNCTION, by the evaluator. -/
theorem fnOK_of (C : TysOK P F.cx.tys) (G : FnsOK P F.cx.fns) {f : FuncId} {fn : Func} {c : Code} (hf : P.funcs[f]? = some fn) (hb : fn.body = some c) (hn : fn.ntmps = F.nt) {args : List SV} {r : SV} (ha : args.length ≤ F.nt) (hr : closed r = true)
    (hD0 : ∀ w0 ok0 ops K st id, D id ops K st → Means P F.nt w0 ok0 (.region id ops true) K st)
    (h : ∀ L, LoopRule F D L → wpX F D L c (Fin F.cx fn.results.toList r) ⟨args0 0 args, []⟩) : FnOK P f args r := by
  intro ok w vs hok hrel
  have hlen := relAll_length hrel
  refine calls_of_wp hf hb ?_
  have hX := h _ (loopRule_means (w0 := w) (ok0 := ok) C G (hD0 w ok))
  refine wpX_means C G (hD0 w ok) (fun _ _ _ h => h) c hX fin_noGoto ok env0 _ w _ ?_ ?_
  · refine ⟨rfl, ?_, fun t x h => ?_, fun j => trivial, fun j j' b h => ?_, fun j b h => ?_, fun b k h => ⟨hok b k h, .inl h⟩, fun _ _ h => h, Below.refl _ _, fun j => ?_⟩
    · simp only [Array.size_append, Array.size_replicate, hn]
      simp at hlen
      omega
    · obtain ⟨v, hv, _, hr⟩ := args_rel hrel h
      have : (vs ++ Array.replicate (fn.ntmps - vs.size) undef).getD t undef = v := by
        rw [Array.getD_eq_getD_getElem?]
        have hv' : vs[t]? = some v := by simpa using hv
        have hlt : t < vs.size := (Array.getElem?_eq_some_iff.1 hv').1
        rw [Array.getElem?_append_left hlt, hv']
        rfl
      rw [this]
      exact hr
    · simp [ent, blkOf] at h
    · simp [ent, blkOf] at h
    · rfl
  · intro e st' ok' V' a' w' hk R'
    have fin : (match resL F.cx st' fn.results.toList with | some x => lessV x r | none => False) → ∃ v, (results fn a'.tmps).run P w' = .ok v w' ∧ ∃ u ok', Ending.returned v = .returned u ∧ Below w.heap.size w w' ∧ More ok ok' w w' ∧ relV ok' w' env0 r u := by
      intro hres
      cases hx : resL F.cx st' fn.results.toList with
      | none => rw [hx] at hres; exact hres.elim
      | some x =>
        rw [hx] at hres
        obtain ⟨v, h1, h2⟩ := results_run C R' hx
        refine ⟨v, h1, v, ok', rfl, R'.below, ⟨R'.ok0, fun b k hb => (R'.oks b k hb).2.imp id (fun h => ⟨h, (R'.oks b k hb).1⟩)⟩, ?_⟩
        exact (lessV_relV hres h2).closed (V' := env0) hr
    cases e with
    | normal => exact ⟨R'.defers, fin hk⟩
    | ret => exact ⟨R'.defers, fin hk⟩
    | _ => exact hk.elim
end
end Mx
