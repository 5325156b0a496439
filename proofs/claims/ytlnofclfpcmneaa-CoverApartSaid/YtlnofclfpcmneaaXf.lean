/- Guards; a region in the text's order. Own work; any program. -/
import Derived.Test.YtlnofclfpcmneaaXk
namespace Mx
open Go Go.RowKit
def tmpsOf : List Operand → List Nat
  | [] => []
  | .tmp t :: r => t :: tmpsOf r
  | _ :: r => tmpsOf r
/-- the temporaries that must hold something (behind a guard) -/
def asksT : Op → List Nat
  | .pick c _ _ => tmpsOf [c]
  | o => tmpsOf o.operands.toList
def memB : List Nat → Nat → Bool
  | [], _ => false
  | x :: r, t => match x == t with | true => true | false => memB r t
def strip : Option SV → Option SV
  | some (.on _ x) => some x
  | r => r
def useTm (l : List Nat) (tm : Tm) : Tm := fun t => match memB l t with | true => strip (tm t) | false => tm t
def conds (tm : Tm) : List Nat → Prop
  | [] => True
  | t :: r => (match tm t with | some (.on c _) => c = true | _ => True) ∧ conds tm r
def pureX : Op → Bool
  | .alloc _ | .box _ _ | .store _ _ _ | .buildSlice _ _ _ | .makeSlice _ _ _ | .makeFunc _ _ _ => false
  | .assign x => !isNilC x
  | _ => true
def plain1 : SV → Bool
  | .tp _ _ | .on _ _ | .un => false
  | _ => true
/-- what a guard says: nothing; this condition -/
def guardOf (ops : Array Oper) (tm : Tm) (g : Option (Nat × Bool)) : Option (Option Bool) :=
  match g with
  | none => some none
  | some (j, want) => (ops[j]?).bind fun o => o.dst.bind fun d => (tm d).bind fun v =>
    match v with
    | .b g => some (some (g == want))
    | .on c (.b g) => some (some (c && (g == want)))
    | _ => none
def guardOfL (u : Lk) (ops : Array Oper) (tm : Tm) (g : Option (Nat × Bool)) : Option (Option Bool) :=
  match g with
  | none => some none
  | some (j, want) => (ops[j]?).bind fun o => o.dst.bind fun d => (tm d).bind fun v =>
    match v with
    | .b g => some (some (lk1 u (fun g => g == want) g))
    | .on c (.b g) => some (some (lk2 u (fun c g => c && (g == want)) c g))
    | _ => none
theorem guardOfL_eq (u : Lk) (ops : Array Oper) (tm : Tm) (g : Option (Nat × Bool)) : guardOfL u ops tm g = guardOf ops tm g := by obtain rfl := Lk.eq_std u; rfl
def evalG (cx : Ctx) (ops : Array Oper) (tm : Tm) (me : Nat → Ent) (o : Oper) : Option (Prop × SV × Option (Nat × Ent)) :=
  (guardOfL cx.u ops tm o.guard).bind fun g =>
    match g with
    | none => evalO cx tm me o.dst o.op
    | some c => bif pureX o.op then (evalO cx (useTm (asksT o.op) tm) me o.dst o.op).bind fun r =>
        bif plain1 r.2.1 then some (lq2 cx.u (fun (c : Bool) (q : Prop) => c = true → q) c (conds tm (asksT o.op) ∧ r.1), .on c r.2.1, none) else none
      else none
def putF (tm : Tm) : Option Tmp → SV → Tm
  | none, _ => tm
  | some d, x => fun t => match d == t with | true => some x | false => tm t
def putT (tm : List (Nat × SV)) (d : Option Tmp) (v : SV) : List (Nat × SV) :=
  match d with
  | some t => (t, v) :: tm
  | none => tm
def putE (m : List (Nat × Ent)) : Option (Nat × Ent) → List (Nat × Ent)
  | none => m
  | some p => p :: m
def purgeV (k : Nat) : SV → SV
  | .ow j x => bif ment k x then .un else bif j == k then x else .ow j x
  | x => bif ment k x then .un else x
def purgeT (k : Nat) : List (Nat × SV) → List (Nat × SV)
  | [] => []
  | (t, x) :: r => (t, purgeV k x) :: purgeT k r
def purgeM (k : Nat) : List (Nat × Ent) → List (Nat × Ent)
  | [] => []
  | (j, e) :: r => (j, bif mentE k e then .gone else e) :: purgeM k r
def purge (st : St) (o : Op) (d : Option Tmp) : St :=
  match isNew o, d with
  | true, some k => ⟨purgeT k st.tmps, purgeM k st.mem⟩
  | _, _ => st
def dstOK (nt : Nat) : Option Tmp → Bool
  | none => true
  | some d => Nat.blt d nt
def appOf (o : Oper) : Option (Operand × Operand × TypeId) :=
  match o.guard, o.op with
  | none, .call c =>
    match c.callee, c.args.toList, c.argTypes.toList with
    | .builtin .append, [x, y], [t, t'] => bif t == t' then some (x, y, t) else none
    | _, _, _ => none
  | _, _ => none
def stepL (cx : Ctx) (nt : Nat) (ops : Array Oper) (o : Oper) (st : St) : Option (Prop × St) :=
  bif dstOK nt o.dst then
    match appOf o with
    | some (x, y, t) => (evalAL cx (getT st.tmps) (ent st.mem) o.dst x y t).bind fun r =>
      some (r.1, ⟨putT (purgeT r.2.1 st.tmps) o.dst (.ow r.2.1 r.2.2.2.2), putE (purgeM r.2.1 st.mem) (some (r.2.1, .own r.2.2.1 r.2.2.2.1))⟩)
    | none =>
    (evalG cx ops (getT (purge st o.op o.dst).tmps) (ent (purge st o.op o.dst).mem) o).bind fun r =>
      some (r.1, ⟨putT (purge st o.op o.dst).tmps o.dst r.2.1, putE (purge st o.op o.dst).mem r.2.2⟩)
  else none
def evalL (cx : Ctx) (nt : Nat) (ops : Array Oper) : List Oper → Prop → St → Option (Prop × St)
  | [], q, st => some (q, st)
  | o :: r, q, st => (stepL cx nt ops o st).bind fun x => evalL cx nt ops r (q ∧ x.1) x.2
/-- what may be forgotten of a value -/
def less1 : SV → SV → Prop
  | .nl, .sl _ l => l = []
  | .ow j .nl, .ow k (.sl _ l) => j = k ∧ l = []
  | .ow _ .nl, .sl _ l => l = []
  | .ow _ (.sl e l), .sl e' l' => SV.sl e l = .sl e' l'
  | y, x => y = x
def lessV : SV → SV → Prop
  | .tp a b, .tp c d => less1 a c ∧ lessV b d
  | .tp _ _, _ => False
  | _, .tp _ _ => False
  | y, x => less1 y x
theorem less1_refl (x : SV) : less1 x x := by
  unfold less1
  split <;> simp_all
theorem lessV_refl (x : SV) : lessV x x := by
  induction x with
  | tp a b _ ih => exact ⟨less1_refl a, ih⟩
  | _ => exact less1_refl _
def lessE : Ent → Ent → Prop
  | _, .gone => True
  | .own0, .own _ _ => True
  | e, e' => e = e'
section
variable {P : Program} {cx : Ctx} {nt : Nat} {w0 : World} {ok0 ok ok' : Nat → Nat → Prop} {V V' : Env} {tm tm' : Tm} {me me' : Nat → Ent} {a : Act} {w w' : World}
theorem less_nil {e : E} {l : List e.T} {v : Value} (h : l = []) (hv : v = .slice none 0 0) : rel1 ok w V (.sl e l) v := by
  subst h hv
  exact ⟨_, ⟨none, 0, rfl, Nat.le_refl _, fun i hi => by simp at hi⟩, rfl⟩
theorem less1_rel1 {y x : SV} {v : Value} (h : less1 y x) (hr : rel1 ok w V y v) : rel1 ok w V x v := by
  unfold less1 at h
  split at h
  · obtain ⟨_, rfl, rfl⟩ := hr
    exact less_nil h rfl
  · rename_i j k e l
    obtain ⟨rfl, h⟩ := h
    obtain ⟨_, ⟨rfl, _, h1⟩, h2⟩ := hr
    have hv : V.val j = .slice none 0 0 := by
      have : [V.val j] = [.slice none 0 0] := h1
      simpa using this
    obtain ⟨cs, h3, h4⟩ := less_nil (ok := ok) (w := w) (V := V) (e := e) h hv
    refine ⟨[V.val j], ⟨rfl, rfl, ?_⟩, h2⟩
    have hcs : cs = [V.val j] := by
      obtain ⟨A, c, rfl, _⟩ := h3
      rw [show V.val j = .slice A l.length c from h4]
    rw [← hcs]; exact h3
  · obtain ⟨_, ⟨rfl, _, h1⟩, h2⟩ := hr
    have hv := List.head_eq_of_cons_eq (show _ = [Value.slice none 0 0] from h1)
    exact less_nil h (h2.trans hv)
  · rw [← h]
    obtain ⟨cs, ⟨_, hp, h1⟩, h2⟩ := hr
    exact ⟨cs, h1, h2⟩
  · rw [← h]; exact hr
theorem lessV_relV {y x : SV} {v : Value} (h : lessV y x) (hr : relV ok w V y v) : relV ok w V x v := by
  have hL : ∀ {y x : SV} {vs : List Value}, lessV y x → relL ok w V y vs → relL ok w V x vs := by
    intro y
    induction y with
    | tp a b _ ihb =>
      intro x vs h hr
      cases x with
      | tp c d =>
        obtain ⟨v, r, rfl, h1, h2⟩ := hr
        exact ⟨v, r, rfl, less1_rel1 h.1 h1, ihb h.2 h2⟩
      | _ => exact (nomatch h)
    | _ =>
      intro x vs h hr
      cases x with
      | tp c d => exact (nomatch h)
      | _ => obtain ⟨v, rfl, h1⟩ := hr; exact ⟨v, rfl, less1_rel1 h h1⟩
  cases y with
  | tp a b =>
    cases x with
    | tp c d => obtain ⟨vs, h1, h2⟩ := hr; exact ⟨vs, h1, hL h h2⟩
    | _ => exact (nomatch h)
  | on c y' =>
    cases x with
    | tp c d => exact (nomatch h)
    | _ => have h' : SV.on c y' = _ := h; rw [← h']; exact hr
  | un =>
    cases x with
    | tp c d => exact (nomatch h)
    | _ => have h' : SV.un = _ := h; rw [← h']; exact hr
  | _ =>
    cases x with
    | tp c d => exact (nomatch h)
    | _ => exact relV_of_rel1 (less1_rel1 h hr)
theorem Rep.less (R : Rep nt w0 ok0 ok V tm me a w) (ht : ∀ t x, tm' t = some x → x = .un ∨ ∃ y, tm t = some y ∧ (lessV y x ∨ ∃ j, y = .ow j x)) (hm : ∀ j, lessE (me j) (me' j)) : Rep nt w0 ok0 ok V tm' me' a w := by
  have hB : ∀ j b, blkOf V j (me' j) = some b → blkOf V j (me j) = some b ∧ fromOf V j (me' j) = fromOf V j (me j) := fun j b h => by
    have hj := hm j
    have hR := R.mem j
    unfold lessE at hj
    split at hj
    · rename_i e; rw [e] at h; cases h
    · rename_i e1 e2
      rw [e2] at h
      rw [e1] at hR
      have h' : (V.val j).ownBlock = some b := h
      rw [show V.val j = _ from hR] at h'
      cases h'
    · rw [← hj] at h ⊢; exact ⟨h, rfl⟩
  refine ⟨R.defers, R.size, fun t x h => ?_, fun j => ?_, fun j j' b h h' => R.apart j j' b (hB j b h).1 (hB j' b h').1, fun j b h => by rw [(hB j b h).2]; exact R.mine j b (hB j b h).1, R.oks, R.ok0, R.below, R.vals⟩
  · rcases ht t x h with rfl | ⟨y, hy, h | ⟨j, rfl⟩⟩
    · trivial
    · exact lessV_relV h (R.tmps t _ hy)
    · exact rel_ow (R.tmps t _ hy)
  · have hj := hm j
    have hR := R.mem j
    unfold lessE at hj
    split at hj
    · rename_i e; rw [e]; trivial
    · rename_i e1 e2
      rw [e1] at hR
      rw [e2]
      have : V.val j = .slice none 0 0 := hR
      exact ⟨[], by rw [this]; exact World.ownsRow_nil _ _ _ _⟩
    · rw [← hj]; exact hR
theorem Rep.put (R : Rep nt w0 ok0 ok V tm me a w) {d : Option Tmp} {x : SV} {v : Value} (hd : dstOK nt d = true) (hv : relV ok w V x v) : Rep nt w0 ok0 ok V (putF tm d x) me (a.put d v) w := by
  cases d with
  | none => exact R
  | some d =>
    have hlt : d < a.tmps.size := by rw [R.size]; simpa [dstOK] using hd
    refine ⟨R.defers, by simpa [Act.put] using R.size, fun t y h => ?_, R.mem, R.apart, R.mine, R.oks, R.ok0, R.below, R.vals⟩
    simp only [putF] at h
    cases hdt : (d == t) with
    | true =>
      simp only [hdt, cond_true, Option.some.injEq] at h
      subst h
      obtain rfl : d = t := by simpa using hdt
      show relV ok w V x ((a.tmps.setIfInBounds d v).getD d undef)
      rw [Array.getD_eq_getD_getElem?, Array.getElem?_setIfInBounds_self_of_lt hlt]
      exact hv
    | false =>
      simp only [hdt, cond_false] at h
      have hne : d ≠ t := by simpa using hdt
      have := R.tmps t y h
      show relV ok w V y ((a.tmps.setIfInBounds d v).getD t undef)
      rw [Array.getD_eq_getD_getElem?, Array.getElem?_setIfInBounds_ne hne, ← Array.getD_eq_getD_getElem?]
      exact this
theorem getT_put (l : List (Nat × SV)) (d : Option Tmp) (x : SV) : getT (putT l d x) = putF (getT l) d x := by
  cases d <;> rfl
theorem ent_put (m : List (Nat × Ent)) (ef : Option (Nat × Ent)) : ent (putE m ef) = effect (ent m) ef := by
  cases ef with
  | none => rfl
  | some p =>
    obtain ⟨k, e⟩ := p
    funext j
    simp only [putE, ent, effect]
    rw [show (k == j) = (j == k) from Bool.beq_comm]
    cases j == k <;> rfl
theorem getT_purge (k : Nat) : ∀ (l : List (Nat × SV)) (t : Nat), getT (purgeT k l) t = (getT l t).map (purgeV k)
  | [], _ => rfl
  | (s, x) :: r, t => by
    simp only [purgeT, getT]
    cases (s == t) <;> simp [getT_purge k r t]
theorem ent_purge (k : Nat) : ∀ (m : List (Nat × Ent)) (j : Nat), ent (purgeM k m) j = bif mentE k (ent m j) then .gone else ent m j
  | [], _ => rfl
  | (s, x) :: r, j => by
    simp only [purgeM, ent]
    cases (s == j) <;> simp [ent_purge k r j]
theorem purgeV_or (k : Nat) (y : SV) : purgeV k y = y ∨ purgeV k y = .un ∨ ∃ j, y = .ow j (purgeV k y) := by
  unfold purgeV
  split
  · rename_i j x
    cases ment k x
    · simp only [cond_false]
      cases (j == k)
      · exact .inl rfl
      · exact .inr (.inr ⟨j, rfl⟩)
    · exact .inr (.inl rfl)
  · cases ment k y
    · exact .inl rfl
    · exact .inr (.inl rfl)
theorem ment_purgeV (k : Nat) (y : SV) : ment k (purgeV k y) = false := by
  unfold purgeV
  split
  · rename_i j x
    cases hx : ment k x
    · simp only [cond_false]
      cases hj : (j == k)
      · simp [ment, hx, hj]
      · exact hx
    · rfl
  · cases h : ment k y
    · simpa using h
    · rfl
theorem purgeK_rep {st : St} (R : Rep nt w0 ok0 ok V (getT st.tmps) (ent st.mem) a w) (k : Nat) : Rep nt w0 ok0 ok V (getT (purgeT k st.tmps)) (ent (purgeM k st.mem)) a w := by
  refine R.less (fun t x h => ?_) (fun j => ?_)
  · rw [getT_purge] at h
    obtain ⟨y, hy, rfl⟩ := Option.map_eq_some_iff.1 h
    rcases purgeV_or k y with e | e | ⟨j, e⟩
    · exact .inr ⟨y, hy, .inl (by rw [e]; exact lessV_refl y)⟩
    · exact .inl e
    · exact .inr ⟨y, hy, .inr ⟨j, e⟩⟩
  · rw [ent_purge]
    cases mentE k (ent st.mem j)
    · simp only [cond_false]; unfold lessE; split <;> first | trivial | rfl
    · simp only [cond_true]; unfold lessE; trivial
theorem purgeK_noMent {st : St} (k : Nat) : NoMent k (getT (purgeT k st.tmps)) (ent (purgeM k st.mem)) := by
  refine ⟨fun t x ht => ?_, fun j => ?_⟩
  · rw [getT_purge] at ht
    obtain ⟨y, _, rfl⟩ := Option.map_eq_some_iff.1 ht
    exact ment_purgeV k y
  · rw [ent_purge]
    cases hm : mentE k (ent st.mem j)
    · simpa using hm
    · rfl
theorem purge_rep {st : St} (R : Rep nt w0 ok0 ok V (getT st.tmps) (ent st.mem) a w) (o : Op) (d : Option Tmp) : Rep nt w0 ok0 ok V (getT (purge st o d).tmps) (ent (purge st o d).mem) a w := by
  unfold purge
  cases hN : isNew o with
  | false => cases d <;> exact R
  | true =>
    cases d with
    | none => exact R
    | some k => exact purgeK_rep R k
theorem purge_noMent {st : St} {o : Op} {k : Nat} (h : isNew o = true) : NoMent k (getT (purge st o (some k)).tmps) (ent (purge st o (some k)).mem) := by
  simp only [purge, h]
  exact purgeK_noMent k
theorem conds_mem : ∀ {l : List Nat} {t : Nat} {c : Bool} {x : SV}, conds tm l → memB l t = true → tm t = some (.on c x) → c = true
  | s :: r, t, c, x, ⟨h1, h2⟩, hm, ht => by
    simp only [memB] at hm
    cases hs : (s == t) with
    | true =>
      obtain rfl : s = t := by simpa using hs
      rw [ht] at h1
      exact h1
    | false =>
      simp only [hs, cond_false] at hm
      exact conds_mem h2 hm ht
theorem Rep.use (R : Rep nt w0 ok0 ok V tm me a w) {l : List Nat} (hc : conds tm l) : Rep nt w0 ok0 ok V (useTm l tm) me a w := by
  refine ⟨R.defers, R.size, fun t x h => ?_, R.mem, R.apart, R.mine, R.oks, R.ok0, R.below, R.vals⟩
  unfold useTm at h
  cases hm : memB l t with
  | false => simp only [hm, cond_false] at h; exact R.tmps t x h
  | true =>
    simp only [hm, cond_true] at h
    cases ht : tm t with
    | none => rw [ht] at h; simp [strip] at h
    | some y =>
      rw [ht] at h
      have hy := R.tmps t y ht
      cases y with
      | on c z =>
        simp only [strip, Option.some.injEq] at h
        subst h
        exact relV_of_rel1 (hy.1 (conds_mem hc hm ht))
      | _ => simp only [strip, Option.some.injEq] at h; subst h; exact hy
theorem yielded_of {ops : Array Oper} {a : Act} {j : Nat} {o : Oper} {d : Tmp} (h1 : ops[j]? = some o) (h2 : o.dst = some d) {g : Bool} (hg : a.tmps.getD d undef = .bool g) : yielded ops a.tmps j = some g := by
  have : a.tmps[d]? = some (.bool g) := by
    rw [Array.getD_eq_getD_getElem?] at hg
    cases h : a.tmps[d]? with
    | none => rw [h] at hg; simp [undef] at hg
    | some v => rw [h] at hg; simp at hg; rw [hg]
  simp [yielded, h1, h2, this]
theorem yielded_undef {ops : Array Oper} {a : Act} {j : Nat} {o : Oper} {d : Tmp} (h1 : ops[j]? = some o) (h2 : o.dst = some d) (hg : a.tmps.getD d undef = undef) : yielded ops a.tmps j = none := by
  rw [Array.getD_eq_getD_getElem?] at hg
  cases h : a.tmps[d]? with
  | none => simp [yielded, h1, h2, h]
  | some v => rw [h] at hg; simp at hg; simp [yielded, h1, h2, h, hg, undef]
def wantOf : Option Bool → Bool
  | none => true
  | some c => c
theorem guard_wanted (R : Rep nt w0 ok0 ok V tm me a w) {ops : Array Oper} {o : Oper} {g : Option Bool} (h : guardOf ops tm o.guard = some g) :
    Region.wanted o (yielded ops a.tmps) = wantOf g := by
  unfold guardOf at h
  unfold Region.wanted
  split at h
  · rename_i hg
    injection h with h; subst h
    rw [hg]; rfl
  · rename_i j want hg
    simp only [Option.bind_eq_some_iff] at h
    obtain ⟨oj, h1, d, h2, v, h3, h⟩ := h
    have rv := R.tmps d v h3
    rw [hg]
    dsimp only
    split at h
    · rename_i b
      injection h with h; subst h
      rw [yielded_of h1 h2 (rel_b rv)]
      simp [wantOf]
    · rename_i c b
      injection h with h; subst h
      cases c with
      | true => rw [yielded_of h1 h2 (rel_b (relV_of_rel1 (rv.1 rfl)))]; simp [wantOf]
      | false => rw [yielded_undef h1 h2 (rv.2 rfl)]; simp [wantOf]
    · cases h
theorem rel1_of_plain {x : SV} {v : Value} (h : plain1 x = true) (hv : relV ok w V x v) : rel1 ok w V x v := by
  cases x <;> first | exact hv | simp [plain1] at h
theorem effect_none (m : Nat → Ent) : effect m none = m := rfl
theorem evalO_pure_ef {d : Option Tmp} {o : Op} (hp : pureX o = true) {q : Prop} {x : SV} {ef : Option (Nat × Ent)} (he : evalO cx tm me d o = some (q, x, ef)) : ef = none ∧ isNew o = false := by
  rw [evalO_eq] at he
  unfold evalO0 at he
  cases hX : isX o with
  | false =>
    simp only [hX, cond_false, Option.bind_eq_some_iff, Option.some.injEq, Prod.mk.injEq] at he
    obtain ⟨r, _, _, _, h⟩ := he
    exact ⟨h.symm, by cases o <;> first | rfl | exact hX | simp [pureX] at hp⟩
  | true =>
    simp only [hX, cond_true] at he
    cases o with
    | call c =>
      refine ⟨?_, rfl⟩
      simp only [evalX] at he
      split at he
      · simp only [Option.bind_eq_some_iff] at he
        obtain ⟨sp, _, vs, _, r, _, he⟩ := he
        cases hb : (closedAll vs && closed r.2) with
        | false => simp [hb] at he
        | true => simp only [hb, cond_true, Option.some.injEq, Prod.mk.injEq] at he; exact he.2.2.symm
      · simp only [Option.bind_eq_some_iff] at he
        obtain ⟨cv, _, he⟩ := he
        cases cv with
        | cl f y =>
          simp only [Option.bind_eq_some_iff] at he
          obtain ⟨sp, _, vs, _, r, _, he⟩ := he
          cases hb : (closedAll (vs ++ [.rp y]) && closed r.2) with
          | false => simp [hb] at he
          | true => simp only [hb, cond_true, Option.some.injEq, Prod.mk.injEq] at he; exact he.2.2.symm
        | _ => cases he
      · cases he
    | assign x => simp only [isX] at hX; simp [pureX, hX] at hp
    | makeFunc fn a b => simp [pureX] at hp
    | _ => first | (simp [isX] at hX; done) | simp [pureX] at hp
theorem evalO_pure_wp (C : TysOK P cx.tys) (G : FnsOK P cx.fns) (R : Rep nt w0 ok0 ok V tm me a w) {O : Oper} (hp : pureX O.op = true) {d : Option Tmp} {q : Prop} {x : SV} {ef : Option (Nat × Ent)} (he : evalO cx tm me d O.op = some (q, x, ef)) (hq : q)
    {K : Act → World → Prop} {Q : Exit → Act → World → Prop} (hk : ∀ ok' v w', (∀ tm2, Rep nt w0 ok0 ok V tm2 me a w → Rep nt w0 ok0 ok' V tm2 me a w') → relV ok' w' V x v → K (a.put O.dst v) w') : O.wp P a w K Q := by
  rw [evalO_eq] at he
  unfold evalO0 at he
  cases hX : isX O.op with
  | false =>
    simp only [hX, cond_false, Option.bind_eq_some_iff, Option.some.injEq, Prod.mk.injEq] at he
    obtain ⟨⟨q', x'⟩, he, rfl, rfl, rfl⟩ := he
    obtain ⟨v, h1, h2⟩ := evalP_run C R he hq
    unfold Oper.wp
    rw [h1, Oper.upon_value]
    exact hk ok v w (fun _ h => h) h2
  | true =>
    simp only [hX, cond_true] at he
    cases hO : O.op with
    | call c =>
      rw [hO] at he
      exact call_wp G R he hq (fun w' v ok' hb hm hv => hk ok' v w' (fun _ h => h.called hb hm) hv) hO
    | alloc => rw [hO] at hp; simp [pureX] at hp
    | box => rw [hO] at hp; simp [pureX] at hp
    | store => rw [hO] at hp; simp [pureX] at hp
    | buildSlice => rw [hO] at hp; simp [pureX] at hp
    | makeSlice => rw [hO] at hp; simp [pureX] at hp
    | assign x => rw [hO] at hp hX; simp only [isX] at hX; simp [pureX, hX] at hp
    | makeFunc => rw [hO] at hp; simp [pureX] at hp
    | _ => rw [hO] at hX; simp [isX] at hX
/-- ONE OPERATION, its guard with it. -/
theorem evalG_wp (C : TysOK P cx.tys) (G : FnsOK P cx.fns) (R : Rep nt w0 ok0 ok V tm me a w) {ops : Array Oper} {O : Oper} {q : Prop} {x : SV} {ef : Option (Nat × Ent)} (he : evalG cx ops tm me O = some (q, x, ef)) (hq : q)
    (hnew : isNew O.op = true → ∀ k, O.dst = some k → NoMent k tm me) {K : Act → World → Prop} {Q : Exit → Act → World → Prop}
    (hk : ∀ ok' V' v w', Rep nt w0 ok0 ok' V' tm (effect me ef) a w' → relV ok' w' V' x v → K (a.put O.dst v) w') :
    if Region.wanted O (yielded ops a.tmps) then O.wp P a w K Q else K (a.put O.dst undef) w := by
  simp only [evalG, guardOfL_eq, Option.bind_eq_some_iff] at he
  obtain ⟨g, hg, he⟩ := he
  rw [guard_wanted R hg]
  cases g with
  | none => exact evalO_wp C G R he hq hnew hk
  | some c =>
    simp only at he ⊢
    cases hp : pureX O.op with
    | false => simp [hp] at he
    | true =>
      simp only [hp, cond_true, Option.bind_eq_some_iff] at he
      obtain ⟨⟨q', x', ef'⟩, he, hx⟩ := he
      cases hp1 : plain1 x' with
      | false => simp [hp1] at hx
      | true =>
        simp only [hp1, cond_true, Option.some.injEq, Prod.mk.injEq] at hx
        obtain ⟨rfl, rfl, rfl⟩ := hx
        obtain ⟨rfl, hN⟩ := evalO_pure_ef hp he
        cases c with
        | false => exact hk ok V undef w R ⟨fun h => (by cases h), fun _ => rfl⟩
        | true =>
          unfold lq2 at hq
          rw [cx.u.e2] at hq
          obtain ⟨hc, hq'⟩ := hq rfl
          exact evalO_pure_wp C G (R.use hc) hp he hq' fun ok' v w' hR hv =>
            hk ok' V v w' (hR tm R) ⟨fun _ => rel1_of_plain hp1 hv, fun h => by cases h⟩
theorem stepL_wp (C : TysOK P cx.tys) (G : FnsOK P cx.fns) {st st' : St} (R : Rep nt w0 ok0 ok V (getT st.tmps) (ent st.mem) a w) {ops : Array Oper} {O : Oper} {q : Prop} (he : stepL cx nt ops O st = some (q, st')) (hq : q)
    {K : Act → World → Prop} {Q : Exit → Act → World → Prop} (hk : ∀ ok' V' a' w', Rep nt w0 ok0 ok' V' (getT st'.tmps) (ent st'.mem) a' w' → K a' w') :
    if Region.wanted O (yielded ops a.tmps) then O.wp P a w K Q else K (a.put O.dst undef) w := by
  unfold stepL at he
  cases hd : dstOK nt O.dst with
  | false => simp [hd] at he
  | true =>
    simp only [hd, cond_true] at he
    cases hap : appOf O with
    | some p =>
      obtain ⟨x, y, t⟩ := p
      simp only [hap, evalAL_eq, Option.bind_eq_some_iff, Option.some.injEq, Prod.mk.injEq] at he
      obtain ⟨⟨q', j, et, e, z⟩, he, rfl, rfl⟩ := he
      unfold appOf at hap
      split at hap
      case h_2 => cases hap
      rename_i c hg hop
      split at hap
      case h_2 => cases hap
      rename_i x' y' t1 t2 hcal hargs htys
      cases ht : (t1 == t2) with
      | false => simp [ht] at hap
      | true =>
        obtain rfl : t1 = t2 := by simpa using ht
        simp only [ht, cond_true, Option.some.injEq, Prod.mk.injEq] at hap
        obtain ⟨rfl, rfl, rfl⟩ := hap
        have hw : Region.wanted O (yielded ops a.tmps) = true := by unfold Region.wanted; rw [hg]
        rw [if_pos hw]
        refine append_wp C R hop hcal (by rw [← hargs]) (by rw [← htys]) he hq (purgeK_rep R j) (purgeK_noMent j) (ent_purge j st.mem j) fun ok' V' v w' R' hv => ?_
        refine hk ok' V' _ w' ?_
        have := R'.put hd hv
        rw [getT_put, ent_put]
        exact this
    | none =>
    simp only [hap, Option.bind_eq_some_iff, Option.some.injEq, Prod.mk.injEq] at he
    obtain ⟨⟨q', x, ef⟩, he, rfl, rfl⟩ := he
    refine evalG_wp C G (purge_rep R O.op O.dst) he hq (fun h k hk => ?_) fun ok' V' v w' R' hv => ?_
    · rw [hk]; exact purge_noMent h
    · refine hk ok' V' _ w' ?_
      have := R'.put hd hv
      rw [getT_put, ent_put]
      exact this
/-- A region in the text's order. -/
theorem evalL_wp (C : TysOK P cx.tys) (G : FnsOK P cx.fns) {ops : Array Oper} {Q : Exit → Act → World → Prop} : ∀ (l : List Oper) {q q' : Prop} {st st' : St} {ok : Nat → Nat → Prop} {V : Env} {a : Act} {w : World}, Rep nt w0 ok0 ok V (getT st.tmps) (ent st.mem) a w →
    evalL cx nt ops l q st = some (q', st') → q' → (∀ ok' V' a' w', Rep nt w0 ok0 ok' V' (getT st'.tmps) (ent st'.mem) a' w' → Q .normal a' w') → wpList P ops Q l a w
  | [], q, q', st, st', ok, V, a, w, R, he, hq, hk => by
    simp only [evalL, Option.some.injEq, Prod.mk.injEq] at he
    obtain ⟨_, rfl⟩ := he
    exact hk _ _ _ _ R
  | O :: l, q, q', st, st', ok, V, a, w, R, he, hq, hk => by
    simp only [evalL, Option.bind_eq_some_iff] at he
    obtain ⟨⟨q1, st1⟩, h1, h2⟩ := he
    have hq1 : ∀ (l : List Oper) {q q' : Prop} {st st' : St}, evalL cx nt ops l q st = some (q', st') → q' → q := by
      intro l
      induction l with
      | nil => intro q q' st st' h hq'; simp only [evalL, Option.some.injEq, Prod.mk.injEq] at h; rw [h.1]; exact hq'
      | cons O l ih =>
        intro q q' st st' h hq'
        simp only [evalL, Option.bind_eq_some_iff] at h
        obtain ⟨x, _, h⟩ := h
        exact (ih h hq').1
    refine wpList_step fun K hK => ?_
    exact stepL_wp C G R h1 (hq1 l h2 hq).2 fun ok' V' a' w' R' => hK _ _ (evalL_wp C G l R' h2 hq hk)
end
end Mx
