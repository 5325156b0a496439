/- A region that draws its order: the theorem. Own work; any program. -/
import Derived.Test.YtlnofclfpcmneaaXg
import Derived.Orders
namespace Mx
open Go Go.RowKit
section
variable {ops : Array Oper} {ms : List Nat}
theorem chkT_spec {o : Oper} {j : Nat} : ∀ {l : List Oper} {k : Nat}, chkT ops ms o j k l = true → ∀ i a, l[i]? = some a → k + i < j → conflT ops a o = true → (ms.getD j 0).testBit (k + i) = true
  | [], _, _, i, a, h, _, _ => by simp at h
  | b :: r, k, hc, i, a, hi, hlt, hcf => by
    simp only [chkT] at hc
    have hk : Nat.blt k j = true := by simp; omega
    simp only [hk, cond_true, Bool.and_eq_true, Bool.or_eq_true, Bool.not_eq_true'] at hc
    cases i with
    | zero =>
      simp only [List.getElem?_cons_zero, Option.some.injEq] at hi
      subst hi
      rcases hc.1 with h | h
      · rw [h] at hcf; cases hcf
      · simpa using h
    | succ i =>
      have := chkT_spec hc.2 i a (by simpa using hi) (by omega) hcf
      rwa [show k + 1 + i = k + (i + 1) by omega] at this
theorem allT_spec : ∀ {l : List Oper} {k : Nat}, allT ops ms k l = true → ∀ j o, l[j]? = some o → (∀ e ∈ o.after, Region.binds .any e = true → e.on < k + j) ∧ chkT ops ms o (k + j) 0 ops.toList = true
  | [], _, _, j, o, h => by simp at h
  | b :: r, k, ha, j, o, hj => by
    simp only [allT, Bool.and_eq_true] at ha
    cases j with
    | zero =>
      simp only [List.getElem?_cons_zero, Option.some.injEq] at hj
      subst hj
      refine ⟨fun e he hb => ?_, ha.1.2⟩
      have := List.all_eq_true.1 ha.1.1 e (by simpa using he)
      simp only [hb, Bool.not_true, Bool.false_or] at this
      simpa using this
    | succ j =>
      obtain ⟨h1, h2⟩ := allT_spec ha.2 j o (by simpa using hj)
      rw [show k + 1 + j = k + (j + 1) by omega] at h1 h2
      exact ⟨h1, h2⟩
theorem chkM_spec {d : Info} {j : Nat} : ∀ {l : List Info} {k : Nat}, chkM ms d j k l = true → ∀ i a, l[i]? = some a → k + i < j →
    (conflM a d = true → (ms.getD j 0).testBit (k + i) = true) ∧ ∀ n, newK d = some n → mentI n a = false
  | [], _, _, i, a, h, _ => by simp at h
  | b :: r, k, hc, i, a, hi, hlt => by
    simp only [chkM] at hc
    have hk : Nat.blt k j = true := by simp; omega
    simp only [hk, cond_true, Bool.and_eq_true, Bool.or_eq_true, Bool.not_eq_true'] at hc
    cases i with
    | zero =>
      simp only [List.getElem?_cons_zero, Option.some.injEq] at hi
      subst hi
      refine ⟨fun hcf => ?_, fun n hn => ?_⟩
      · rcases hc.1.1 with h | h
        · rw [h] at hcf; cases hcf
        · simpa using h
      · have := hc.1.2
        rw [hn] at this
        simpa using this
    | succ i =>
      have := chkM_spec hc.2 i a (by simpa using hi) (by omega)
      rwa [show k + 1 + i = k + (i + 1) by omega] at this
theorem allM_spec {ds : List Info} : ∀ {l : List Info} {k : Nat}, allM ms ds k l = true → ∀ j d, l[j]? = some d → chkM ms d (k + j) 0 ds = true
  | [], _, _, j, d, h => by simp at h
  | b :: r, k, ha, j, d, hj => by
    simp only [allM, Bool.and_eq_true] at ha
    cases j with
    | zero =>
      simp only [List.getElem?_cons_zero, Option.some.injEq] at hj
      subst hj
      exact ha.1
    | succ j =>
      have := allM_spec ha.2 j d (by simpa using hj)
      rwa [show k + 1 + j = k + (j + 1) by omega] at this
theorem maskOf_spec {acc : List Nat} {o : Oper} {i : Nat} (h : (maskOf acc o).testBit i = true) : ∃ e ∈ o.after, Region.binds .any e = true ∧ (e.on = i ∨ (acc.getD e.on 0).testBit i = true) := by
  unfold maskOf at h
  have : ∀ (l : List Edge) (s : Nat), ((l.foldl (fun s e => bif Region.binds .any e then s ||| 2 ^ e.on ||| acc.getD e.on 0 else s) s).testBit i = true) → s.testBit i = true ∨ ∃ e ∈ l, Region.binds .any e = true ∧ (e.on = i ∨ (acc.getD e.on 0).testBit i = true) := by
    intro l
    induction l with
    | nil => intro s h; exact .inl h
    | cons e l ih =>
      intro s h
      simp only [List.foldl_cons] at h
      rcases ih _ h with h | ⟨e', he', h⟩
      · cases hb : Region.binds .any e with
        | false => simp only [hb, cond_false] at h; exact .inl h
        | true =>
          simp only [hb, cond_true, Nat.testBit_or, Bool.or_eq_true, Nat.testBit_two_pow] at h
          rcases h with (h | h) | h
          · exact .inl h
          · exact .inr ⟨e, by simp, hb, .inl (by simpa using h)⟩
          · exact .inr ⟨e, by simp, hb, .inr h⟩
      · exact .inr ⟨e', by simp [he'], h⟩
  rcases this _ _ h with h | ⟨e, he, h⟩
  · simp at h
  · exact ⟨e, by simpa using he, h⟩
theorem befs_prefix : ∀ (l : List Oper) (acc : List Nat), ∃ r, befs acc l = acc ++ r ∧ r.length = l.length
  | [], acc => ⟨[], by simp [befs], rfl⟩
  | o :: l, acc => by
    obtain ⟨r, h, hl⟩ := befs_prefix l (acc ++ [maskOf acc o])
    exact ⟨maskOf acc o :: r, by rw [befs, h]; simp, by simp [hl]⟩
theorem befs_get : ∀ (l : List Oper) (acc : List Nat) (j : Nat) (o : Oper), l[j]? = some o → (befs acc l).getD (acc.length + j) 0 = maskOf ((befs acc l).take (acc.length + j)) o
  | [], _, j, o, h => by simp at h
  | b :: l, acc, 0, o, h => by
    simp only [List.getElem?_cons_zero, Option.some.injEq] at h
    subst h
    obtain ⟨r, h, _⟩ := befs_prefix l (acc ++ [maskOf acc b])
    rw [befs, h]
    simp [List.getD]
  | b :: l, acc, j + 1, o, h => by
    have := befs_get l (acc ++ [maskOf acc b]) j o (by simpa using h)
    rw [befs]
    rw [show (acc ++ [maskOf acc b]).length + j = acc.length + (j + 1) by simp; omega] at this
    exact this
/-- what stands ahead by a chain of edges is done -/
theorem before_done (hT : drawT ops = true) {L : Nat → Bool} (hcl : ∀ j o, ops[j]? = some o → L j = true → ∀ e ∈ o.after, Region.binds .any e = true → L e.on = true) :
    ∀ (j : Nat) (o : Oper), ops[j]? = some o → (∀ e ∈ o.after, Region.binds .any e = true → L e.on = true) → ∀ i, ((befs [] ops.toList).getD j 0).testBit i = true → L i = true := by
  intro j
  induction j using Nat.strongRecOn with
  | _ j ih =>
    intro o ho he i hi
    have ho' : ops.toList[j]? = some o := by simpa using ho
    have hg := befs_get ops.toList [] j o ho'
    simp only [List.length_nil, Nat.zero_add] at hg
    rw [hg] at hi
    obtain ⟨e, hmem, hb, hor⟩ := maskOf_spec hi
    rcases hor with rfl | hor
    · exact he e hmem hb
    · have hlt : e.on < j := by
        have := (allT_spec hT j o ho').1 e hmem hb
        omega
      have hL := he e hmem hb
      have hjn : j < ops.size := (Array.getElem?_eq_some_iff.1 ho).1
      have hoe : ops[e.on]? = some ops[e.on] := Array.getElem?_eq_getElem (by omega)
      refine ih e.on hlt _ hoe (hcl _ _ hoe hL) i ?_
      have hlen : e.on < ((befs [] ops.toList).take j).length := by
        obtain ⟨r, h, hr⟩ := befs_prefix ops.toList []
        rw [h]; simp [hr]; omega
      rw [List.getD_eq_getElem?_getD, List.getElem?_take, if_pos hlt, ← List.getD_eq_getElem?_getD] at hor
      exact hor
end
section
variable {L L' : Nat → Bool}
theorem tmL_val {t : Nat} {x : SV} : ∀ {ds : List Info} {k : Nat} {tm : Tm}, tmL L k ds tm t = some x → tm t = some x ∨ ∃ i d, ds[i]? = some d ∧ L (k + i) = true ∧ d.x = x
  | [], _, _, h => .inl h
  | d :: r, k, tm, h => by
    simp only [tmL] at h
    rcases tmL_val h with h | ⟨i, d', h1, h2, h3⟩
    · cases hL : L k with
      | false => simp only [hL, cond_false] at h; exact .inl h
      | true =>
        simp only [hL, cond_true] at h
        by_cases hd : d.o.dst = some t
        · rw [hd, putF_eq] at h
          exact .inr ⟨0, d, rfl, hL, by simpa using h⟩
        · rw [putF_ne hd] at h; exact .inl h
    · exact .inr ⟨i + 1, d', by simpa using h1, by rwa [show k + (i + 1) = k + 1 + i by omega], h3⟩
theorem meL_val {j : Nat} : ∀ {ds : List Info} {k : Nat} {me : Nat → Ent}, meL L k ds me j = me j ∨ ∃ i d, ds[i]? = some d ∧ L (k + i) = true ∧ d.ef = some (j, meL L k ds me j)
  | [], _, _ => .inl rfl
  | d :: r, k, me => by
    simp only [meL]
    rcases meL_val (ds := r) (k := k + 1) (me := bif L k then effect me d.ef else me) with h | ⟨i, d', h1, h2, h3⟩
    · rw [h]
      cases hL : L k with
      | false => exact .inl rfl
      | true =>
        simp only [cond_true]
        cases hd : d.ef with
        | none => exact .inl rfl
        | some p =>
          obtain ⟨n, e⟩ := p
          cases hn : (j == n) with
          | true =>
            obtain rfl : j = n := by simpa using hn
            exact .inr ⟨0, d, rfl, hL, by rw [hd]; simp [effect]⟩
          | false => exact .inl (by simp [effect, hn])
    · exact .inr ⟨i + 1, d', by simpa using h1, by rwa [show k + (i + 1) = k + 1 + i by omega], h3⟩
end
theorem evalD_spec {cx : Ctx} {nt : Nat} {ops : Array Oper} : ∀ {l : List Oper} {st st' : St} {q : Prop} {ds : List Info}, evalD cx nt ops l st = some (q, ds, st') →
    ds.length = l.length ∧ getT st'.tmps = tmL (fun _ => true) 0 ds (getT st.tmps) ∧ ent st'.mem = meL (fun _ => true) 0 ds (ent st.mem) ∧
    ∀ j d, ds[j]? = some d → l[j]? = some d.o ∧ dstOK nt d.o.dst = true ∧ d.rd = rdG (tmL (fun i => decide (i < j)) 0 ds (getT st.tmps)) d.o ∧
      ∃ qj, (q → qj) ∧ evalG cx ops (tmL (fun i => decide (i < j)) 0 ds (getT st.tmps)) (meL (fun i => decide (i < j)) 0 ds (ent st.mem)) d.o = some (qj, d.x, d.ef)
  | [], st, st', q, ds, h => by
    simp only [evalD, Option.some.injEq, Prod.mk.injEq] at h
    obtain ⟨_, rfl, rfl⟩ := h
    exact ⟨rfl, rfl, rfl, fun j d h => by simp at h⟩
  | o :: r, st, st', q, ds, h => by
    simp only [evalD] at h
    cases hd : dstOK nt o.dst with
    | false => simp [hd] at h
    | true =>
      simp only [hd, cond_true, Option.bind_eq_some_iff, Option.some.injEq, Prod.mk.injEq] at h
      obtain ⟨⟨q1, x, ef⟩, h1, ⟨q2, ds2, st2⟩, h2, rfl, rfl, rfl⟩ := h
      obtain ⟨a1, a2, a3, a4⟩ := evalD_spec h2
      rw [getT_put] at a2
      rw [ent_put] at a3
      refine ⟨by simp [a1], ?_, ?_, fun j d hj => ?_⟩
      · rw [a2]; simp only [tmL, cond_true]; rw [tmL_shift]
      · rw [a3]; simp only [meL, cond_true]; rw [meL_shift]
      · cases j with
        | zero =>
          simp only [List.getElem?_cons_zero, Option.some.injEq] at hj
          subst hj
          have e1 : ∀ (l : List Info) (tm : Tm), tmL (fun i => decide (i < 0)) 0 l tm = tm := fun l tm => by
            have : (fun i => decide (i < 0)) = (fun _ => false) := by funext i; simp
            rw [this, tmL_false]
          have e2 : ∀ (l : List Info) (me : Nat → Ent), meL (fun i => decide (i < 0)) 0 l me = me := fun l me => by
            have : (fun i => decide (i < 0)) = (fun _ => false) := by funext i; simp
            rw [this, meL_false]
          rw [e1, e2]
          exact ⟨rfl, hd, rfl, q1, fun h => h.1, h1⟩
        | succ j =>
          obtain ⟨b1, b2, b3, qj, b4, b5⟩ := a4 j d (by simpa using hj)
          have e1 : tmL (fun i => decide (i < j + 1)) 0 (⟨o, x, ef, rdG (getT st.tmps) o⟩ :: ds2) (getT st.tmps) = tmL (fun i => decide (i < j)) 0 ds2 (putF (getT st.tmps) o.dst x) := by
            simp only [tmL, Nat.zero_lt_succ, decide_true, cond_true]
            rw [tmL_shift]
            congr 1
            funext i; simp
          have e2 : meL (fun i => decide (i < j + 1)) 0 (⟨o, x, ef, rdG (getT st.tmps) o⟩ :: ds2) (ent st.mem) = meL (fun i => decide (i < j)) 0 ds2 (effect (ent st.mem) ef) := by
            simp only [meL, Nat.zero_lt_succ, decide_true, cond_true]
            rw [meL_shift]
            congr 1
            funext i; simp
          rw [e1, e2]
          rw [getT_put] at b3 b5
          rw [ent_put] at b5
          exact ⟨by simpa using b1, b2, b3, qj, fun h => b4 h.2, b5⟩
end Mx
