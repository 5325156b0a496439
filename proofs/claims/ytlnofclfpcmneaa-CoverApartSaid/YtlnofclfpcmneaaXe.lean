/- Operations that change memory: new variables, stores, calls by contract. Own work; any program. -/
import Derived.Test.YtlnofclfpcmneaaXd
import Derived.Laws.OwnMore
import Derived.Laws.MakeOwn
import Derived.Laws.AppendOwn
namespace Mx
open Go Go.RowKit
/-- without pointers and rows of one's own -/
def closed : SV → Bool
  | .i _ _ | .b _ | .s _ | .hd _ | .sl _ _ | .rb _ _ | .raw _ | .nl => true
  | .pr a b => closed a && closed b
  | .tp a b => closed a && closed b
  | .rp x => closed x
  | .cl _ x => closed x
  | _ => false
def closedAll : List SV → Bool
  | [] => true
  | x :: r => closed x && closedAll r
def env0 : Env := ⟨fun _ => 0, fun _ => .bool false⟩
/-- more cells may be read: new ones -/
structure More (ok ok' : Nat → Nat → Prop) (w w' : World) : Prop where
  oks : ∀ b k, ok b k → ok' b k
  new : ∀ b k, ok' b k → ok b k ∨ (w.heap.size ≤ b ∧ b < w'.heap.size)
/-- what a pure function answers -/
def FnOK (P : Program) (f : FuncId) (args : List SV) (r : SV) : Prop :=
  ∀ (ok : Nat → Nat → Prop) (w : World) (vs : Array Value), (∀ b k, ok b k → b < w.heap.size) → relAll ok w env0 args vs.toList →
    Calls P f vs w fun e w' => ∃ v ok', e = .returned v ∧ Below w.heap.size w w' ∧ More ok ok' w w' ∧ relV ok' w' env0 r v
def SpecOK (P : Program) (f : FuncId) (sp : Spec) : Prop := ∀ args q r, sp args = some (q, r) → q → FnOK P f args r
/-- it has a body, and is no entry of its own -/
def Plainly (P : Program) (f : FuncId) : Prop := ∃ fn, P.funcs[f]? = some fn ∧ (fn.name == "runtime.NumGoroutine") = false ∧ fn.body.isNone = false
def FnsOK (P : Program) (fns : List (FuncId × Spec)) : Prop := ∀ f sp, fnOf fns f = some sp → Plainly P f ∧ SpecOK P f sp
def zeroOf : TI → Option SV
  | .hd => some (.hd 0)
  | .st _ _ z _ => some z
  | .int k => some (.i k 0)
  | .bo => some (.b false)
  | _ => none
/-- the elements of a slice that is written out -/
def elems (tm : Tm) (e : E) : Nat → List (Nat × Operand) → Option (List e.T)
  | _, [] => some []
  | i, (j, x) :: r => bif i == j then (operand tm x).bind fun v => (e.untree v).bind fun y => (elems tm e (i + 1) r).bind fun l => some (y :: l) else none
def isNilC : Operand → Bool
  | .const (.slice none 0 0) => true
  | _ => false
def evalX (cx : Ctx) (tm : Tm) (m : Nat → Ent) (d : Option Tmp) (o : Op) : Option (Prop × SV × Option (Nat × Ent)) :=
  match o with
  | .alloc t => d.bind fun k => (tyOf cx.tys t).bind fun ti => (zeroOf ti).bind fun z => some (True, .p k [] 0, some (k, .box t z))
  | .box t x => d.bind fun k => (operand tm x).bind fun v => (tyOf cx.tys t).bind fun ti => bif fits ti v && !ment k v then some (True, .p k [] 0, some (k, .box t v)) else none
  | .store t x y => (operand tm x).bind fun a => (operand tm y).bind fun v => (tyOf cx.tys t).bind fun ti =>
    match a with
    | .p j q o => match m j with
      | .box bt z => (sub z q).bind fun old => bif fits ti v && size v == size old && off z q == o then (upd z q v).bind fun z' => some (True, SV.on false (.b false), some (j, .box bt z')) else none
      | _ => none
    | .pb j q o i => match m j, v, ti with
      | .box bt z, .i .u8 n, .int .u8 => match sub z q with
        | some (.hd h) => bif off z q == o then (upd z q (.hd (setHb h i.toNat n))).bind fun z' => some ((0 ≤ i ∧ i < 13) ∧ 0 ≤ n ∧ n < 256, SV.on false (.b false), some (j, .box bt z')) else none
        | _ => none
      | _, _, _ => none
    | _ => none
  | .call c =>
    match c.callee with
    | .value (.func f) => (fnOf cx.fns f).bind fun sp => ((operands tm c.args.toList).map barely).bind fun vs => (sp vs).bind fun r => bif closedAll vs && closed r.2 then some (r.1, r.2, none) else none
    | .value (.tmp t) => (tm t).bind fun v => match v with
      | .cl f y => (fnOf cx.fns f).bind fun sp => ((operands tm c.args.toList).map barely).bind fun vs => (sp (vs ++ [.rp y])).bind fun r => bif closedAll (vs ++ [.rp y]) && closed r.2 then some (r.1, r.2, none) else none
      | _ => none
    | _ => none
  | .makeFunc (.func f) first captured =>
    match first.toList, captured.toList with
    | [], [x] => (operand tm x).bind fun a => match a with
      | .p j [] 0 => match m j with
        | .box _ y => bif closed y then some (True, .cl f y, some (j, .gone)) else none
        | _ => none
      | _ => none
    | _, _ => none
  | .assign x => bif isNilC x then d.bind fun k => some (True, .ow k .nl, some (k, .own0)) else none
  | .buildSlice t n ps => d.bind fun k => (tyOf cx.tys t).bind fun ti =>
    match ti with
    | .sl et e => (elems tm e 0 ps.toList).bind fun l => bif l.length == n && Nat.ble n 1000 then some (True, .ow k (.sl e l), some (k, .own et e)) else none
    | _ => none
  | .makeSlice t x y => d.bind fun k => (tyOf cx.tys t).bind fun ti => (operand tm x).bind fun l => (operand tm y).bind fun c =>
    match ti, l, c with
    | .sl et e, .i _ l, .i _ c => bif decide (l = 0) && decide (0 ≤ c) && decide (c ≤ 100000) then some (True, .ow k (.sl e []), some (k, .own et e)) else none
    | _, _, _ => none
  | _ => none
def evalXL (cx : Ctx) (tm : Tm) (m : Nat → Ent) (d : Option Tmp) (o : Op) : Option (Prop × SV × Option (Nat × Ent)) :=
  match o with
  | .alloc t => d.bind fun k => (tyOf cx.tys t).bind fun ti => (zeroOf ti).bind fun z => some (True, .p k [] 0, some (k, .box t z))
  | .box t x => d.bind fun k => (operand tm x).bind fun v => (tyOf cx.tys t).bind fun ti => bif fits ti v && !ment k v then some (True, .p k [] 0, some (k, .box t v)) else none
  | .store t x y => (operand tm x).bind fun a => (operand tm y).bind fun v => (tyOf cx.tys t).bind fun ti =>
    match a with
    | .p j q o => match m j with
      | .box bt z => (sub z q).bind fun old => bif fits ti v && size v == size old && off z q == o then (upd z q v).bind fun z' => some (True, SV.on false (.b false), some (j, .box bt z')) else none
      | _ => none
    | .pb j q o i => match m j, v, ti with
      | .box bt z, .i .u8 n, .int .u8 => match sub z q with
        | some (.hd h) => bif off z q == o then (upd z q (.hd (lk3 cx.u (fun (h : Hd) (i n : Int) => setHb h i.toNat n) h i n))).bind fun z' => some (lq2 cx.u (fun (i n : Int) => (0 ≤ i ∧ i < 13) ∧ 0 ≤ n ∧ n < 256) i n, SV.on false (.b false), some (j, .box bt z')) else none
        | _ => none
      | _, _, _ => none
    | _ => none
  | .call c =>
    match c.callee with
    | .value (.func f) => (fnOf cx.fns f).bind fun sp => ((operands tm c.args.toList).map barely).bind fun vs => (sp vs).bind fun r => bif closedAll vs && closed r.2 then some (r.1, r.2, none) else none
    | .value (.tmp t) => (tm t).bind fun v => match v with
      | .cl f y => (fnOf cx.fns f).bind fun sp => ((operands tm c.args.toList).map barely).bind fun vs => (sp (vs ++ [.rp y])).bind fun r => bif closedAll (vs ++ [.rp y]) && closed r.2 then some (r.1, r.2, none) else none
      | _ => none
    | _ => none
  | .makeFunc (.func f) first captured =>
    match first.toList, captured.toList with
    | [], [x] => (operand tm x).bind fun a => match a with
      | .p j [] 0 => match m j with
        | .box _ y => bif closed y then some (True, .cl f y, some (j, .gone)) else none
        | _ => none
      | _ => none
    | _, _ => none
  | .assign x => bif isNilC x then d.bind fun k => some (True, .ow k .nl, some (k, .own0)) else none
  | .buildSlice t n ps => d.bind fun k => (tyOf cx.tys t).bind fun ti =>
    match ti with
    | .sl et e => (elems tm e 0 ps.toList).bind fun l => bif l.length == n && Nat.ble n 1000 then some (True, .ow k (.sl e l), some (k, .own et e)) else none
    | _ => none
  | .makeSlice t x y => d.bind fun k => (tyOf cx.tys t).bind fun ti => (operand tm x).bind fun l => (operand tm y).bind fun c =>
    match ti, l, c with
    | .sl et e, .i _ l, .i _ c => bif decide (l = 0) && decide (0 ≤ c) && decide (c ≤ 100000) then some (True, .ow k (.sl e []), some (k, .own et e)) else none
    | _, _, _ => none
  | _ => none
theorem evalXL_eq (cx : Ctx) (tm : Tm) (m : Nat → Ent) (d : Option Tmp) (o : Op) : evalXL cx tm m d o = evalX cx tm m d o := by
  obtain ⟨tys, fns, u⟩ := cx
  obtain rfl := Lk.eq_std u
  cases o <;> rfl
/-- it makes a variable of its own -/
def isNew : Op → Bool
  | .alloc _ | .box _ _ | .buildSlice _ _ _ | .makeSlice _ _ _ => true
  | .assign x => isNilC x
  | _ => false
def isX : Op → Bool
  | .alloc _ | .box _ _ | .store _ _ _ | .buildSlice _ _ _ | .makeSlice _ _ _ => true
  | .assign x => isNilC x
  | .call c => match c.callee with | .value (.func _) | .value (.tmp _) => true | _ => false
  | .makeFunc (.func _) _ _ => true
  | _ => false
def evalO0 (cx : Ctx) (tm : Tm) (m : Nat → Ent) (d : Option Tmp) (o : Op) : Option (Prop × SV × Option (Nat × Ent)) :=
  match isX o with | true => evalX cx tm m d o | false => (evalP cx tm m o).bind fun r => some (r.1, r.2, none)
def evalO (cx : Ctx) (tm : Tm) (m : Nat → Ent) (d : Option Tmp) (o : Op) : Option (Prop × SV × Option (Nat × Ent)) :=
  match isX o with | true => evalXL cx tm m d o | false => (evalPL cx tm m o).bind fun r => some (r.1, r.2, none)
theorem evalO_eq (cx : Ctx) (tm : Tm) (m : Nat → Ent) (d : Option Tmp) (o : Op) : evalO cx tm m d o = evalO0 cx tm m d o := by
  unfold evalO evalO0
  rw [evalXL_eq, evalPL_eq]
def effect (m : Nat → Ent) : Option (Nat × Ent) → Nat → Ent
  | none, j => m j
  | some (k, e), j => match j == k with | true => e | false => m j
section
variable {P : Program} {cx : Ctx} {nt : Nat} {w0 : World} {ok0 ok ok' : Nat → Nat → Prop} {V V' : Env} {tm : Tm} {me : Nat → Ent} {a : Act} {w w' : World}
theorem relC.closed : ∀ {x : SV} {cs : List Value}, closed x = true → relC ok w V x cs → relC ok w V' x cs
  | .i _ _, _, _, hr | .b _, _, _, hr | .s _, _, _, hr | .hd _, _, _, hr | .raw _, _, _, hr | .sl _ _, _, _, hr | .rb _ _, _, _, hr | .nl, _, _, hr => hr
  | .pr a b, _, hc, ⟨c1, c2, h, h1, h2⟩ => by
    simp only [Mx.closed, Bool.and_eq_true] at hc
    exact ⟨c1, c2, h, relC.closed hc.1 h1, relC.closed hc.2 h2⟩
  | .rp x, _, hc, ⟨A, el, h, hk, hx, hr⟩ => ⟨A, el, h, hk, relC.closed (x := x) hc hx, hr⟩
  | .cl _ x, _, hc, ⟨A, el, h, hk, hx, hr⟩ => ⟨A, el, h, hk, relC.closed (x := x) hc hx, hr⟩
  | .ow _ _, _, hc, _ | .p _ _ _, _, hc, _ | .pb _ _ _ _, _, hc, _ | .on _ _, _, hc, _ | .un, _, hc, _ => by simp [Mx.closed] at hc
  | .tp _ _, _, _, hr => hr.elim
theorem rel1.closed {x : SV} {v : Value} (hc : Mx.closed x = true) (h : rel1 ok w V x v) : rel1 ok w V' x v := by
  obtain ⟨cs, h1, h2⟩ := h
  exact ⟨cs, h1.closed hc, h2⟩
theorem relL.closed : ∀ {x : SV} {vs : List Value}, Mx.closed x = true → relL ok w V x vs → relL ok w V' x vs := by
  intro x
  induction x with
  | tp a b _ ihb =>
    rintro vs hc ⟨v, r, h, h1, h2⟩
    simp only [Mx.closed, Bool.and_eq_true] at hc
    exact ⟨v, r, h, h1.closed hc.1, ihb hc.2 h2⟩
  | _ => rintro vs hc ⟨v, h, h1⟩; exact ⟨v, h, h1.closed hc⟩
theorem relV.closed {x : SV} {v : Value} (hc : Mx.closed x = true) (h : relV ok w V x v) : relV ok w V' x v := by
  cases x with
  | tp a b => obtain ⟨vs, h1, h2⟩ := h; exact ⟨vs, h1, h2.closed hc⟩
  | on c x => simp [Mx.closed] at hc
  | un => trivial
  | _ => exact rel1.closed hc h
theorem relAll.closed : ∀ {xs : List SV} {vs : List Value}, closedAll xs = true → relAll ok w V xs vs → relAll ok w V' xs vs
  | [], _, _, h => h
  | _ :: _, [], _, h => h.elim
  | _ :: _, _ :: _, hc, ⟨h1, h2⟩ => by
    simp only [closedAll, Bool.and_eq_true] at hc
    exact ⟨h1.closed hc.1, relAll.closed hc.2 h2⟩
theorem own_of_heap {base : Nat} {e : TypeId} {size n : Nat} {v : Value} {xs : List Value} (h : w.ownsRow base e size v n xs) (hm : ∀ k, v.ownBlock = some k → w'.heap[k]? = w.heap[k]?) : w'.ownsRow base e size v n xs := by
  obtain ⟨h1, h2⟩ := h
  refine ⟨h1, h2.imp id ?_⟩
  rintro ⟨g, cap, cur, rfl, hg, hh, h3⟩
  exact ⟨g, cap, cur, rfl, hg, (hm g rfl).trans hh, h3⟩
theorem RepE.keep {N j : Nat} {e : Ent} (h : Keeps ok ok' w w') (hj : V'.blk j = V.blk j ∧ V'.val j = V.val j) (hs : ∀ k, mentE k e = true → V'.blk k = V.blk k ∧ V'.val k = V.val k) (hb : ∀ b, blkOf V j e = some b → w'.heap[b]? = w.heap[b]?) (hr : RepE ok w V N j e) : RepE ok' w' V' N j e := by
  cases e with
  | box t x => obtain ⟨cs, h1, h2⟩ := hr; exact ⟨cs, h1.keep h hs, by rw [hj.1, hb _ rfl]; exact h2⟩
  | own0 => exact hj.2.trans hr
  | own et e => obtain ⟨xs, h1⟩ := hr; exact ⟨xs, by rw [hj.2]; exact own_of_heap h1 (fun k hk => hb k hk)⟩
  | gone => trivial
/-- nothing names the variable k -/
def NoMent (k : Nat) (tm : Tm) (me : Nat → Ent) : Prop := (∀ t x, tm t = some x → ment k x = false) ∧ ∀ j, mentE k (me j) = false
/-- A new variable. -/
theorem Rep.box (R : Rep nt w0 ok0 ok V tm me a w) {k : Nat} (hn : NoMent k tm me) {x : SV} {cs : List Value} {t : TypeId} (hx : ment k x = false) (hc : relC ok w V x cs) :
    ∃ V', Rep nt w0 ok0 ok V' tm (effect me (some (k, .box t x))) a (w.alloc (.cells cs.toArray t)) ∧
      relV ok (w.alloc (.cells cs.toArray t)) V' (.p k [] 0) (.pointer (some ⟨w.heap.size, 0, none⟩)) := by
  let V' : Env := ⟨fun j => if j = k then w.heap.size else V.blk j, V.val⟩
  have hK : Keeps ok ok w (w.alloc (.cells cs.toArray t)) := .of_heap (fun _ _ h => h) fun b k hb => Below.heap_alloc w _ b (R.oks b k hb).1
  have hnew : (w.alloc (.cells cs.toArray t)).heap[w.heap.size]? = some (.cells cs.toArray t (0, 0)) := heap_alloc_new w _
  have hsz : (w.alloc (.cells cs.toArray t)).heap.size = w.heap.size + 1 := by simp
  have hold : ∀ j, j ≠ k → V'.blk j = V.blk j ∧ V'.val j = V.val j := fun j hj => ⟨if_neg hj, rfl⟩
  have hk0 : V'.blk k = w.heap.size := if_pos rfl
  have e1 : effect me (some (k, .box t x)) k = .box t x := by simp [effect]
  have e2 : ∀ j, j ≠ k → effect me (some (k, .box t x)) j = me j := fun j hj => by
    have : (j == k) = false := by simpa using hj
    simp [effect, this]
  have hB : ∀ j, j ≠ k → ∀ b, blkOf V' j (effect me (some (k, .box t x)) j) = some b → blkOf V j (me j) = some b := by
    intro j hj b h
    rw [e2 j hj] at h
    cases he : me j <;> rw [he] at h <;> simp only [blkOf] at h ⊢
    · rw [← (hold j hj).1]; exact h
    · exact h
    · exact h
    · exact h
  have hb0 : ∀ b, blkOf V' k (effect me (some (k, .box t x)) k) = some b → b = w.heap.size := fun b h => by
    rw [e1] at h
    simp only [blkOf, Option.some.injEq] at h
    rw [← h, hk0]
  refine ⟨V', ⟨R.defers, R.size, fun t' y h => (R.tmps t' y h).keep hK (Same.of_ne hold (hn.1 t' y h)), ?_, ?_, ?_, fun b k hb => ⟨by have := (R.oks b k hb).1; omega, (R.oks b k hb).2⟩, R.ok0, R.below.alloc R.below.size _, R.vals⟩, ?_⟩
  · intro j
    by_cases hj : j = k
    · subst hj
      rw [e1]
      exact ⟨cs, hc.keep hK (Same.of_ne hold hx), by rw [hk0]; exact hnew⟩
    · rw [e2 j hj]
      refine (R.mem j).keep hK (hold j hj) (fun i hi => hold i (fun e => ?_)) (fun b hb => Below.heap_alloc w _ b (R.mine j b hb).2.1)
      subst e
      rw [hn.2 j] at hi; cases hi
  · intro j j' b h h'
    by_cases hj : j = k <;> by_cases hj' : j' = k
    · rw [hj, hj']
    · exfalso
      have h2 := (R.mine j' b (hB j' hj' b h')).2.1
      subst hj
      have := hb0 b h
      omega
    · exfalso
      have h2 := (R.mine j b (hB j hj b h)).2.1
      subst hj'
      have := hb0 b h'
      omega
    · exact R.apart j j' b (hB j hj b h) (hB j' hj' b h')
  · intro j b h
    by_cases hj : j = k
    · subst hj
      obtain rfl := hb0 b h
      exact ⟨R.below.size, by omega, fun i _ hk => Nat.lt_irrefl _ (R.oks _ _ hk).1⟩
    · obtain ⟨h1, h2, h3⟩ := R.mine j b (hB j hj b h)
      refine ⟨h1, by omega, fun i hi => h3 i ?_⟩
      rw [e2 j hj] at hi
      exact hi
  · refine ⟨_, rfl, ?_⟩
    show _ = Value.pointer (some ⟨V'.blk k, 0, none⟩)
    rw [hk0]
/-- A variable that has other contents. -/
theorem Rep.set (R : Rep nt w0 ok0 ok V tm me a w) {j : Nat} {t : TypeId} {x y : SV} {cs ds : List Value} (he : me j = .box t x) (hh : w.heap[V.blk j]? = some (.cells cs.toArray t (0, 0)))
    (hd : relC ok w V y ds) : Rep nt w0 ok0 ok V tm (effect me (some (j, .box t y))) a (w.setRow (V.blk j) ds.toArray) := by
  have hb : blkOf V j (me j) = some (V.blk j) := by rw [he]; rfl
  obtain ⟨hN, hlt, hno⟩ := R.mine j _ hb
  have hother : ∀ b, b ≠ V.blk j → (w.setRow (V.blk j) ds.toArray).heap[b]? = w.heap[b]? := fun b hb => setRow_other w _ b _ hb
  have hK : Keeps ok ok w (w.setRow (V.blk j) ds.toArray) := .of_heap (fun _ _ h => h) fun b k hb => hother b (fun e => hno k (by rw [he]; exact Nat.zero_le _) (e ▸ hb))
  have e1 : effect me (some (j, .box t y)) j = .box t y := by simp [effect]
  have e2 : ∀ k, k ≠ j → effect me (some (j, .box t y)) k = me k := fun k hk => by
    have : (k == j) = false := by simpa using hk
    simp [effect, this]
  have hB : ∀ k b, blkOf V k (effect me (some (j, .box t y)) k) = some b → blkOf V k (me k) = some b := by
    intro k b h
    by_cases hk : k = j
    · subst hk; rw [e1] at h; rw [he]; exact h
    · rwa [e2 k hk] at h
  refine ⟨R.defers, R.size, fun t' z h => (R.tmps t' z h).keep hK Same.refl, ?_, fun k k' b h h' => R.apart k k' b (hB k b h) (hB k' b h'), fun k b h => ?_, fun b k hb => ⟨by simpa using (R.oks b k hb).1, (R.oks b k hb).2⟩, R.ok0, ?_, R.vals⟩
  · intro k
    by_cases hk : k = j
    · subst hk
      rw [e1]
      exact ⟨ds, hd.keep hK Same.refl, setRow_heap w _ _ _ _ _ hh⟩
    · rw [e2 k hk]
      exact (R.mem k).keep hK ⟨rfl, rfl⟩ (fun _ _ => ⟨rfl, rfl⟩) (fun b hb' => hother b (fun e => hk (R.apart k j b hb' (by rw [hb, e]))))
  · obtain ⟨h1, h2, h3⟩ := R.mine k b (hB k b h)
    refine ⟨h1, by simpa using h2, fun i hi => h3 i ?_⟩
    by_cases hk : k = j
    · subst hk; rw [he]; exact Nat.zero_le _
    · rwa [e2 k hk] at hi
  · exact ⟨R.below.os, R.below.tape, R.below.output, by simpa using R.below.size, fun k hk => (hother k (by omega)).trans (R.below.block k hk)⟩
/-- A variable of one's own that is only read from now on. -/
theorem Rep.freeze (R : Rep nt w0 ok0 ok V tm me a w) {j : Nat} {t : TypeId} {x : SV} {cs : List Value} (he : me j = .box t x) (hh : w.heap[V.blk j]? = some (.cells cs.toArray t (0, 0))) :
    ∃ ok', Rep nt w0 ok0 ok' V tm (effect me (some (j, .gone))) a w ∧ (∀ b k, ok b k → ok' b k) ∧ OkR ok' ⟨V.blk j, 0, none⟩ cs.length := by
  have hb : blkOf V j (me j) = some (V.blk j) := by rw [he]; rfl
  obtain ⟨hN, hlt, hno⟩ := R.mine j _ hb
  let ok' : Nat → Nat → Prop := fun b k => ok b k ∨ b = V.blk j
  have hK : Keeps ok ok' w w := ⟨fun _ _ h => .inl h, fun _ _ => rfl⟩
  have e1 : effect me (some (j, .gone)) j = .gone := by simp [effect]
  have e2 : ∀ k, k ≠ j → effect me (some (j, .gone)) k = me k := fun k hk => by
    have : (k == j) = false := by simpa using hk
    simp [effect, this]
  have hB : ∀ k b, blkOf V k (effect me (some (j, .gone)) k) = some b → k ≠ j ∧ blkOf V k (me k) = some b := by
    intro k b h
    by_cases hk : k = j
    · subst hk; rw [e1] at h; cases h
    · rw [e2 k hk] at h; exact ⟨hk, h⟩
  refine ⟨ok', ⟨R.defers, R.size, fun t' z h => (R.tmps t' z h).keep hK Same.refl, ?_, fun k k' b h h' => R.apart k k' b (hB k b h).2 (hB k' b h').2, fun k b h => ?_, fun b k hbk => ?_, fun b k h => .inl (R.ok0 b k h), R.below, R.vals⟩, fun _ _ h => .inl h, fun k _ => .inr rfl⟩
  · intro k
    by_cases hk : k = j
    · subst hk; rw [e1]; trivial
    · rw [e2 k hk]
      exact (R.mem k).keep hK ⟨rfl, rfl⟩ (fun _ _ => ⟨rfl, rfl⟩) (fun _ _ => rfl)
  · obtain ⟨hk, hb'⟩ := hB k b h
    obtain ⟨h1, h2, h3⟩ := R.mine k b hb'
    rw [e2 k hk]
    refine ⟨h1, h2, fun i hi hok => ?_⟩
    rcases hok with hok | hok
    · exact h3 i hi hok
    · subst hok; exact hk (R.apart k j _ hb' hb)
  · rcases hbk with h | h
    · exact R.oks b k h
    · subst h; exact ⟨hlt, .inr hN⟩
/-- Behind a pure call: more memory, all that was there as it was. -/
theorem Rep.called (R : Rep nt w0 ok0 ok V tm me a w) (hb : Below w.heap.size w w') (hm : More ok ok' w w') : Rep nt w0 ok0 ok' V tm me a w' := by
  have hK : Keeps ok ok' w w' := .of_heap hm.oks fun b k h => hb.block b (R.oks b k h).1
  have hs := hb.size
  have hs0 := R.below.size
  refine ⟨R.defers, R.size, fun t x h => (R.tmps t x h).keep hK Same.refl, fun j => (R.mem j).keep hK ⟨rfl, rfl⟩ (fun _ _ => ⟨rfl, rfl⟩) (fun b h => hb.block b (R.mine j b h).2.1), R.apart, fun j b h => ?_, fun b k h => ?_, fun b k h => hm.oks b k (R.ok0 b k h), ?_, R.vals⟩
  · obtain ⟨h1, h2, h3⟩ := R.mine j b h
    exact ⟨h1, by omega, fun k hk h => (hm.new b k h).elim (h3 k hk) (fun h => by omega)⟩
  · rcases hm.new b k h with h | h
    · obtain ⟨h1, h2⟩ := R.oks b k h
      exact ⟨by omega, h2⟩
    · exact ⟨h.2, .inr (by omega)⟩
  · exact R.below.trans (hb.mono hs0)
theorem lenOf_own {N : Nat} {et : TypeId} {sz n : Nat} {v : Value} {xs : List Value} (h : w.ownsRow N et sz v n xs) : lenOf v = n := by
  rcases h.2 with ⟨rfl, rfl⟩ | ⟨g, cap, cur, rfl, _⟩ <;> rfl
theorem own_rel {N : Nat} {et : TypeId} {e : E} {l : List e.T} {v : Value} (h : w.ownsRow N et e.sz v l.length (l.flatMap e.cells)) (hok : ∀ b k, v.ownBlock = some b → k < l.length * e.sz → ok b k) :
    ∃ A c, v = .slice A l.length c ∧ l.length ≤ c ∧ RowAt ok w A e l := by
  rcases h.2 with ⟨rfl, hn⟩ | ⟨g, cap, cur, rfl, _, _, hc, _⟩
  · exact ⟨none, 0, by rw [hn], by omega, fun i hi => by omega⟩
  · refine ⟨_, cap, rfl, hc, fun i hi => ⟨_, rfl, fun k hk => ?_, fun k hk => ?_⟩⟩
    · rw [block_add, off_add]
      refine hok g _ rfl ?_
      have : (i + 1) * e.sz ≤ l.length * e.sz := Nat.mul_le_mul_right _ hi
      rw [Nat.add_mul, Nat.one_mul] at this
      simp only [Nat.zero_add]
      omega
    · rw [add_add]
      refine h.cells (g := g) rfl (i * e.sz + k) _ ?_
      rw [E.cells_length] at hk
      have : ∀ (l : List e.T) (i : Nat) (hi : i < l.length) (k : Nat) (hk : k < e.sz), (l.flatMap e.cells)[i * e.sz + k]? = (e.cells l[i])[k]? := by
        intro l
        induction l with
        | nil => intro i hi; simp at hi
        | cons x l ih =>
          intro i hi k hk
          rw [List.flatMap_cons]
          cases i with
          | zero => rw [List.getElem?_append_left (by rw [E.cells_length]; omega)]; simp
          | succ i =>
            rw [List.getElem?_append_right (by rw [E.cells_length, Nat.add_mul]; omega), E.cells_length, show (i + 1) * e.sz + k - e.sz = i * e.sz + k by rw [Nat.add_mul]; omega]
            exact ih i (by simpa using hi) k hk
      rw [this l i hi k hk]
      simp [E.cells_length, hk]
/-- A slice of one's own, made or grown. -/
theorem Rep.grown (R : Rep nt w0 ok0 ok V tm me a w) {j : Nat} (hn : NoMent j tm me) {v' : Value} {et : TypeId} {e : E} {l : List e.T} (ho : w'.ownsRow w0.heap.size et e.sz v' l.length (l.flatMap e.cells))
    (hos : w'.os = w.os) (htape : w'.tape = w.tape) (hout : w'.output = w.output) (hsz : w.heap.size ≤ w'.heap.size)
    (hblk : ∀ k, k < w.heap.size → blkOf V j (me j) ≠ some k → w'.heap[k]? = w.heap[k]?)
    (hcell : ∀ A : Addr, ok A.block A.off → w'.cell? A = w.cell? A)
    (hB : ∀ b, v'.ownBlock = some b → (blkOf V j (me j) = some b ∧ fromOf V j (me j) ≤ l.length * e.sz) ∨ w.heap.size ≤ b) :
    ∃ V' ok', Rep nt w0 ok0 ok' V' tm (effect me (some (j, .own et e))) a w' ∧ relV ok' w' V' (.ow j (.sl e l)) v' := by
  let V' : Env := ⟨V.blk, fun i => if i = j then v' else V.val i⟩
  let ok' : Nat → Nat → Prop := fun b k => ok b k ∨ (v'.ownBlock = some b ∧ k < l.length * e.sz)
  have hK : Keeps ok ok' w w' := ⟨fun _ _ h => .inl h, hcell⟩
  have hold : ∀ i, i ≠ j → V'.blk i = V.blk i ∧ V'.val i = V.val i := fun i hi => ⟨rfl, if_neg hi⟩
  have hj0 : V'.val j = v' := if_pos rfl
  have e1 : effect me (some (j, .own et e)) j = .own et e := by simp [effect]
  have e2 : ∀ i, i ≠ j → effect me (some (j, .own et e)) i = me i := fun i hi => by
    have : (i == j) = false := by simpa using hi
    simp [effect, this]
  have hlen : lenOf v' = l.length := lenOf_own ho
  have hBl : ∀ i, i ≠ j → ∀ b, blkOf V' i (effect me (some (j, .own et e)) i) = some b → blkOf V i (me i) = some b := by
    intro i hi b h
    rw [e2 i hi] at h
    cases he : me i <;> rw [he] at h <;> simp only [blkOf] at h ⊢
    · exact h
    · rw [← (hold i hi).2]; exact h
    · rw [← (hold i hi).2]; exact h
    · exact h
  have hbj : ∀ b, blkOf V' j (effect me (some (j, .own et e)) j) = some b → v'.ownBlock = some b := fun b h => by
    rw [e1] at h
    simp only [blkOf] at h
    rwa [hj0] at h
  have hapart : ∀ i, i ≠ j → ∀ b, blkOf V i (me i) = some b → v'.ownBlock ≠ some b := fun i hi b h hb => by
    rcases hB b hb with ⟨h', _⟩ | h'
    · exact hi (R.apart i j b h h')
    · have := (R.mine i b h).2.1; omega
  obtain ⟨A, c, hv, hc, hrow⟩ := own_rel (ok := ok') ho (fun b k hb hk => .inr ⟨hb, hk⟩)
  refine ⟨V', ok', ⟨R.defers, R.size, fun t' y h => (R.tmps t' y h).keep hK (Same.of_ne hold (hn.1 t' y h)), ?_, ?_, ?_, ?_, fun b k h => .inl (R.ok0 b k h), ?_, ?_⟩, ?_⟩
  · intro i
    by_cases hi : i = j
    · subst hi
      rw [e1]
      exact ⟨_, by rw [hj0, hlen]; exact ho⟩
    · rw [e2 i hi]
      refine (R.mem i).keep hK (hold i hi) (fun k hk => hold k (fun e' => ?_)) (fun b hb => hblk b (R.mine i b hb).2.1 (fun h' => hi (R.apart i j b hb h')))
      subst e'
      rw [hn.2 i] at hk; cases hk
  · intro i i' b h h'
    by_cases hi : i = j <;> by_cases hi' : i' = j
    · rw [hi, hi']
    · subst hi; exact (hapart i' hi' b (hBl i' hi' b h') (hbj b h)).elim
    · subst hi'; exact (hapart i hi b (hBl i hi b h) (hbj b h')).elim
    · exact R.apart i i' b (hBl i hi b h) (hBl i' hi' b h')
  · intro i b h
    by_cases hi : i = j
    · subst hi
      have hb := hbj b h
      obtain ⟨h1, h2⟩ := ho.lt b hb
      refine ⟨h1, h2, fun k hk hok => ?_⟩
      rw [e1] at hk
      simp only [fromOf] at hk
      rw [hj0, hlen] at hk
      rcases hok with hok | ⟨_, hok⟩
      · rcases hB b hb with ⟨h', hf⟩ | h'
        · exact (R.mine i b h').2.2 k (by omega) hok
        · have := (R.oks b k hok).1; omega
      · omega
    · have hb := hBl i hi b h
      obtain ⟨h1, h2, h3⟩ := R.mine i b hb
      refine ⟨h1, by omega, fun k hk hok => ?_⟩
      rcases hok with hok | ⟨hok, _⟩
      · refine h3 k ?_ hok
        rw [e2 i hi] at hk
        have : fromOf V' i (me i) = fromOf V i (me i) := by cases me i <;> simp only [fromOf]; rw [(hold i hi).2]
        rwa [this] at hk
      · exact hapart i hi b hb hok
  · intro b k h
    rcases h with h | ⟨h, _⟩
    · obtain ⟨h1, h2⟩ := R.oks b k h
      exact ⟨by omega, h2⟩
    · obtain ⟨h1, h2⟩ := ho.lt b h
      exact ⟨h2, .inr h1⟩
  · refine ⟨hos.trans R.below.os, htape.trans R.below.tape, hout.trans R.below.output, Nat.le_trans R.below.size hsz, fun k hk => ?_⟩
    have := R.below.size
    exact (hblk k (by omega) (fun h' => by have := (R.mine j k h').1; omega)).trans (R.below.block k hk)
  · intro i
    by_cases hi : i = j
    · subst hi; rw [hj0, hv]; rfl
    · rw [(hold i hi).2]; exact R.vals i
  · exact ⟨[v'], ⟨by rw [hj0], rfl, A, c, by rw [hv], hc, hrow⟩, rfl⟩
theorem Rep.nil (R : Rep nt w0 ok0 ok V tm me a w) {j : Nat} (hn : NoMent j tm me) :
    ∃ V', Rep nt w0 ok0 ok V' tm (effect me (some (j, .own0))) a w ∧ relV ok w V' (.ow j .nl) (.slice none 0 0) := by
  let V' : Env := ⟨V.blk, fun i => if i = j then .slice none 0 0 else V.val i⟩
  have hold : ∀ i, i ≠ j → V'.blk i = V.blk i ∧ V'.val i = V.val i := fun i hi => ⟨rfl, if_neg hi⟩
  have hj0 : V'.val j = .slice none 0 0 := if_pos rfl
  have e1 : effect me (some (j, .own0)) j = .own0 := by simp [effect]
  have e2 : ∀ i, i ≠ j → effect me (some (j, .own0)) i = me i := fun i hi => by
    have : (i == j) = false := by simpa using hi
    simp [effect, this]
  have hBl : ∀ i b, blkOf V' i (effect me (some (j, .own0)) i) = some b → i ≠ j ∧ blkOf V i (me i) = some b := by
    intro i b h
    by_cases hi : i = j
    · subst hi
      rw [e1] at h
      have h' : (V'.val i).ownBlock = some b := h
      rw [hj0] at h'
      cases h'
    refine ⟨hi, ?_⟩
    rw [e2 i hi] at h
    have : blkOf V' i (me i) = blkOf V i (me i) := by
      cases me i <;> first | rfl | (simp only [blkOf]; rw [(hold i hi).2])
    rwa [this] at h
  refine ⟨V', ⟨R.defers, R.size, fun t' y h => (R.tmps t' y h).keep .refl (Same.of_ne hold (hn.1 t' y h)), ?_, fun i i' b h h' => R.apart i i' b (hBl i b h).2 (hBl i' b h').2, ?_, R.oks, R.ok0, R.below, ?_⟩, ?_⟩
  · intro i
    by_cases hi : i = j
    · subst hi
      rw [e1]
      exact hj0
    · rw [e2 i hi]
      refine (R.mem i).keep .refl (hold i hi) (fun k hk => hold k (fun e' => ?_)) (fun _ _ => rfl)
      subst e'
      rw [hn.2 i] at hk; cases hk
  · intro i b h
    obtain ⟨hi, hb⟩ := hBl i b h
    obtain ⟨h1, h2, h3⟩ := R.mine i b hb
    refine ⟨h1, h2, fun k hk => h3 k ?_⟩
    rw [e2 i hi] at hk
    have : fromOf V' i (me i) = fromOf V i (me i) := by cases me i <;> simp only [fromOf]; rw [(hold i hi).2]
    rwa [this] at hk
  · intro i
    by_cases hi : i = j
    · subst hi; rw [hj0]; rfl
    · rw [(hold i hi).2]; exact R.vals i
  · exact ⟨_, ⟨by rw [hj0], rfl, rfl⟩, rfl⟩
theorem flat_len (e : E) (l : List e.T) : (l.flatMap e.cells).length = l.length * e.sz := by
  induction l with
  | nil => simp
  | cons x l ih => rw [List.flatMap_cons, List.length_append, ih, E.cells_length, List.length_cons, Nat.add_mul, Nat.one_mul, Nat.add_comm]
theorem tree_cells {e : E} {y : e.T} {v : Value} (h : relV ok w V (e.tree y) v) : v.cells = (e.cells y).toArray := by
  have hsk : skel (e.tree y) (e.tree y) = true := by cases e <;> simp [E.tree, skel]
  have h1 : rel1 ok w V (e.tree y) v := by cases e <;> exact h
  obtain ⟨cs, hc, rfl⟩ := h1
  obtain rfl := relC_flat hsk hc
  cases e <;> rfl
theorem elems_fill (R : Rep nt w0 ok0 ok V tm me a w) {e : E} : ∀ {ps : List (Nat × Operand)} {i : Nat} {l : List e.T}, elems tm e i ps = some l → ∀ (done rest : List Value), done.length = i * e.sz → rest.length = l.length * e.sz →
    Instr.fill (fun i => some (i * e.sz, e.sz)) (done ++ rest).toArray (ps.map fun q => (q.1, a.eval q.2)) = some (done ++ l.flatMap e.cells).toArray
  | [], i, l, h, done, rest, _, hr => by
    simp only [elems, Option.some.injEq] at h
    subst h
    have : rest = [] := List.eq_nil_of_length_eq_zero (by simpa using hr)
    subst this
    rfl
  | (j, x) :: ps, i, l, h, done, rest, hd, hr => by
    simp only [elems] at h
    cases hij : (i == j) with
    | false => simp [hij] at h
    | true =>
      obtain rfl : i = j := by simpa using hij
      simp only [hij, cond_true, Option.bind_eq_some_iff, Option.some.injEq] at h
      obtain ⟨v, hv, y, hy, l', hl', rfl⟩ := h
      have hrel := R.operand hv
      rw [← E.untree_tree hy] at hrel
      have hcells := tree_cells hrel
      have hcl := e.cells_length y
      rw [List.length_cons, Nat.add_mul, Nat.one_mul] at hr
      have ih := elems_fill R hl' (done ++ e.cells y) (rest.drop e.sz) (by rw [List.length_append, hd, hcl, Nat.add_mul, Nat.one_mul]) (by rw [List.length_drop]; omega)
      have hseg := fill_seg done (rest.take e.sz) (rest.drop e.sz) (e.cells y) (i * e.sz) (by rw [List.length_take, hcl]; omega) hd.symm
      rw [List.append_assoc, List.take_append_drop] at hseg
      simp only [List.map_cons]
      unfold Instr.fill
      have h1 : ¬ ((a.eval x).cells.size ≠ e.sz) := by rw [hcells]; simp [hcl]
      have h2 : ¬ (i * e.sz + (a.eval x).cells.size > (done ++ rest).toArray.size) := by rw [hcells]; simp [hcl, hd]; omega
      simp only [h1, h2, decide_false, Bool.or_self, Bool.false_eq_true, if_false]
      rw [hcells, hseg, ih]
      simp
theorem run_buildSlice_of (R : Rep nt w0 ok0 ok V tm me a w) {t et : TypeId} {e : E} (h : TyOK P t (.sl et e)) {n : Nat} {ps : Array (Nat × Operand)} {l : List e.T} (hl : elems tm e 0 ps.toList = some l) (hn : l.length = n) (hm : n ≤ 1000) :
    (Instr.buildSlice t n (ps.map fun q => (q.1, a.eval q.2))).run P w = .ok (.slice (some ⟨w.heap.size, 0, none⟩) n n) (w.alloc (.cells (l.flatMap e.cells).toArray et)) := by
  obtain ⟨hu, ⟨i, z, hi, hsz, hz, hzs, _⟩, _⟩ := h
  have hle : e.sz ≤ 28 := by cases e <;> simp [E.sz]
  have hbig : ¬ (n * e.sz > 2 ^ 24) := by
    have := Nat.mul_le_mul hm hle
    omega
  have hfill : ∀ zero : Array Value, Instr.fill (fun i => some (i * e.sz, e.sz)) ((Array.range (n * e.sz)).map (zero[· % zero.size]!)) (ps.map fun q => (q.1, a.eval q.2)).toList = some (l.flatMap e.cells).toArray := by
    intro zero
    have hZ : ((Array.range (n * e.sz)).map (zero[· % zero.size]!)).size = l.length * e.sz := by simp [hn]
    generalize (Array.range (n * e.sz)).map (zero[· % zero.size]!) = Z at hZ
    have := elems_fill R hl [] Z.toList (by simp) (by simpa using hZ)
    simpa using this
  unfold Instr.buildSlice
  have hinfo : (typeInfo et).run P w = .ok i w := by simp [typeInfo, hi]
  simp only [Sem.run_bind, run_underlying hu, Result.andThen_ok, Go.sizeOf, hinfo, Sem.run_pure, hsz, hbig, if_false]
  by_cases h0 : n * e.sz = 0
  · simp only [h0, if_true, Sem.run_pure, Result.andThen_ok]
    have hf := hfill #[]
    rw [h0] at hf
    simp only [hf, newRow, newObj, Sem.run_bind, Sem.run, Result.andThen_ok, Sem.run_pure]
    rfl
  · have hz' : (zeroValue et).run P w = .ok z w := by simp [zeroValue, typeInfo, hi, hz]
    simp only [h0, if_false, Sem.run_bind, hz', Result.andThen_ok, Sem.run_pure, hfill]
    simp only [newRow, newObj, Sem.run_bind, Sem.run, Result.andThen_ok, Sem.run_pure]
    rfl
theorem run_storeVar_of {t : TypeId} {ti : TI} (h : TyOK P t ti) {v : SV} (hz : fits ti v = true) {el : List Value} (hr : relC ok w V v el) (hone : ∀ u ∈ el, u.oneCell' = true) {b o : Nat} {bt : TypeId} {pre mid post : List Value}
    (hh : w.heap[b]? = some (.cells (pre ++ mid ++ post).toArray bt (0, 0))) (hp : pre.length = o) (hl : mid.length = el.length) :
    (storeVar t ⟨b, o, none⟩ (mk v el)).run P w = .ok () (w.setRow b (pre ++ el ++ post).toArray) := by
  obtain ⟨h1, h2⟩ := fits_size hz
  have hsz := run_sizeOf_of (w := w) h
  rw [← h1, ← hr.length] at hsz
  have hcells : (mk v el).cells = el.toArray := by
    by_cases hp : isPr v = true
    · simp [mk, hp, Value.cells]
    · have hs : size v = 1 := by cases v <;> first | rfl | simp [isPr] at hp
      match el, hr.length.trans hs, hone with
      | [u], _, hone => simp [mk, hp, cells_one (hone u (by simp))]
  have := run_storeCells_at (P := P) b o bt el 0 _ w hh (by simp; omega) hone
  simp only [storeVar, Sem.run_bind, hsz, Result.andThen_ok, hcells, List.size_toArray, ne_eq, not_true_eq_false, if_false, Sem.run_pure]
  rw [this]
  congr 2
  simp only [Nat.add_zero]
  subst hp
  have e1 : (pre ++ mid ++ post).take pre.length = pre := by simp
  have e2 : (pre ++ mid ++ post).drop (pre.length + el.length) = post := by rw [← hl, ← List.length_append]; simp
  rw [e1, e2]
theorem upd_rel (R : Rep nt w0 ok0 ok V tm me a w) {j : Nat} {bt : TypeId} {z z' old v : SV} {q : List Bool} {o : Nat} {el' : List Value} (he : me j = .box bt z) 
    (hs : sub z q = some old) (hu : upd z q v = some z') (hsz : size v = size old) (ho : off z q = o) (hv : relC ok w V v el') :
    ∃ pre mid post, w.heap[V.blk j]? = some (.cells (pre ++ mid ++ post).toArray bt (0, 0)) ∧ pre.length = o ∧ mid.length = el'.length ∧ Rep nt w0 ok0 ok V tm (effect me (some (j, .box bt z'))) a (w.setRow (V.blk j) (pre ++ el' ++ post).toArray) := by
  obtain ⟨cs, hc, hh⟩ := ent_box R he
  obtain ⟨pre, post, mid, rfl, hp, hl, hn⟩ := hc.upd hu hs hsz hv
  exact ⟨pre, mid, post, hh, by rw [hp, ho], hl, R.set he hh hn⟩
theorem skel_ment {k : Nat} {x : SV} : ∀ {z : SV}, skel x z = true → ment k x = false := by
  induction x with
  | pr a b iha ihb =>
    intro z hz
    cases z <;> simp only [skel, Bool.false_eq_true, Bool.and_eq_true] at hz
    simp [ment, iha hz.1, ihb hz.2]
  | i | b | s | hd => intro z _; rfl
  | _ => intro z hz; cases z <;> simp [skel] at hz
theorem zero_ok {t : TypeId} {ti : TI} (h : TyOK P t ti) {z : SV} (hz : zeroOf ti = some z) : ∃ zv, (zeroValue t).run P w = .ok zv w ∧ zv.cells = (flat z).toArray ∧ relC ok w V z (flat z) ∧ ∀ k, ment k z = false := by
  cases ti <;> simp only [zeroOf, Option.some.injEq, reduceCtorEq] at hz <;> subst hz
  · obtain ⟨_, _, i, hi, hz⟩ := h; exact ⟨.int _ 0, by simp [zeroValue, typeInfo, hi, hz], rfl, rfl, fun _ => rfl⟩
  · obtain ⟨_, _, i, hi, hz⟩ := h; exact ⟨.bool false, by simp [zeroValue, typeInfo, hi, hz], rfl, rfl, fun _ => rfl⟩
  · obtain ⟨_, _, _, _, ⟨i, hi, _, hz⟩, _⟩ := h; exact ⟨.agg (hdCells 0).toArray, by simp [zeroValue, typeInfo, hi, hz], rfl, rfl, fun _ => rfl⟩
  · obtain ⟨_, _, _, _, ⟨i, hi, _, hz⟩, _, _, hsk, _⟩ := h; exact ⟨.agg (flat _).toArray, by simp [zeroValue, typeInfo, hi, hz], rfl, relC_of_flat hsk, fun k => skel_ment hsk⟩
/-- A call of a function with a contract. -/
theorem relAll_append : ∀ {xs ys : List SV} {vs us : List Value}, relAll ok w V xs vs → relAll ok w V ys us → relAll ok w V (xs ++ ys) (vs ++ us)
  | [], _, _, _, h, h' => by rw [show _ = [] from h]; exact h'
  | _ :: _, _, [], _, h, _ => h.elim
  | _ :: _, _, _ :: _, _, ⟨h1, h2⟩, h' => ⟨h1, relAll_append h2 h'⟩
theorem call_wp (G : FnsOK P cx.fns) (R : Rep nt w0 ok0 ok V tm me a w) {O : Oper} {c : Call} {d : Option Tmp} {q : Prop} {x : SV} {ef : Option (Nat × Ent)} (he : evalX cx tm me d (.call c) = some (q, x, ef)) (hq : q)
    {K : Act → World → Prop} {Q : Exit → Act → World → Prop} (hk : ∀ w' v ok', Below w.heap.size w w' → More ok ok' w w' → relV ok' w' V x v → K (a.put O.dst v) w') (hO : O.op = .call c) : O.wp P a w K Q := by
  unfold Oper.wp execOp
  simp only [hO]
  simp only [evalX] at he
  split at he
  · rename_i f hcal
    simp only [Option.bind_eq_some_iff] at he
    obtain ⟨sp, hf, vs, hvs, r, hr, he⟩ := he
    obtain ⟨vs0, hvs0, hbar⟩ := Option.map_eq_some_iff.1 hvs
    cases hb : (closedAll vs && closed r.2) with
    | false => simp [hb] at he
    | true =>
      simp only [hb, cond_true, Option.some.injEq, Prod.mk.injEq] at he
      obtain ⟨rfl, rfl, rfl⟩ := he
      simp only [Bool.and_eq_true] at hb
      obtain ⟨⟨fn, hfn, hname, hbody⟩, hsp⟩ := G f sp hf
      have hcall := hsp vs r.1 r.2 hr hq ok w (c.args.map a.eval) (fun b k hb => (R.oks b k hb).1) (by rw [Array.toList_map, ← hbar]; exact (relAll_barely (R.operands hvs0)).closed (by rw [hbar]; exact hb.1))
      simp only [resolve, hcal, Act.eval, Deferred.ofValue, Sem.run_bind, Sem.run_pure, Result.andThen_ok, invoke, callFunc, program, Sem.run, hfn, hname, hbody, Bool.false_eq_true, if_false, Array.append_empty, Array.empty_append]
      rw [Oper.upon_enter]
      refine hcall.mono fun e w' ⟨v, ok', he, hbel, hm, hv⟩ => ?_
      subst he
      exact hk w' v ok' hbel hm (hv.closed hb.2)
  · rename_i t hcal
    simp only [Option.bind_eq_some_iff] at he
    obtain ⟨cv, hcv, he⟩ := he
    split at he
    · rename_i f y
      simp only [Option.bind_eq_some_iff] at he
      obtain ⟨sp, hf, vs, hvs, r, hr, he⟩ := he
      obtain ⟨vs0, hvs0, hbar⟩ := Option.map_eq_some_iff.1 hvs
      cases hb : (closedAll (vs ++ [.rp y]) && closed r.2) with
      | false => simp [hb] at he
      | true =>
        simp only [hb, cond_true, Option.some.injEq, Prod.mk.injEq] at he
        obtain ⟨rfl, rfl, rfl⟩ := he
        simp only [Bool.and_eq_true] at hb
        obtain ⟨⟨fn, hfn, hname, hbody⟩, hsp⟩ := G f sp hf
        obtain ⟨A, el, hv, hA, hel, hrd⟩ := rel_cl (R.tmps t _ hcv)
        have hargs : relAll ok w V (vs ++ [.rp y]) ((c.args.map a.eval).toList ++ [.pointer (some A)]) := by
          refine relAll_append ?_ ⟨⟨_, ⟨A, el, rfl, hA, hel, hrd⟩, rfl⟩, rfl⟩
          rw [Array.toList_map, ← hbar]
          exact relAll_barely (R.operands hvs0)
        have hcall := hsp (vs ++ [.rp y]) r.1 r.2 hr hq ok w (c.args.map a.eval ++ #[.pointer (some A)]) (fun b k hb => (R.oks b k hb).1) (by rw [Array.toList_append]; exact hargs.closed hb.1)
        simp only [resolve, hcal, Act.eval, hv, Deferred.ofValue, Sem.run_bind, Sem.run_pure, Result.andThen_ok, invoke, callFunc, program, Sem.run, hfn, hname, hbody, Bool.false_eq_true, if_false, Array.append_empty, Array.empty_append]
        rw [Oper.upon_enter]
        refine hcall.mono fun e w' ⟨v, ok', he, hbel, hm, hv⟩ => ?_
        subst he
        exact hk w' v ok' hbel hm (hv.closed hb.2)
    · cases he
  · cases he
/-- ONE OPERATION. -/
theorem evalO_wp (C : TysOK P cx.tys) (G : FnsOK P cx.fns) (R : Rep nt w0 ok0 ok V tm me a w) {O : Oper} {q : Prop} {x : SV} {ef : Option (Nat × Ent)} (he : evalO cx tm me O.dst O.op = some (q, x, ef)) (hq : q)
    (hnew : isNew O.op = true → ∀ k, O.dst = some k → NoMent k tm me)
    {K : Act → World → Prop} {Q : Exit → Act → World → Prop} (hk : ∀ ok' V' v w', Rep nt w0 ok0 ok' V' tm (effect me ef) a w' → relV ok' w' V' x v → K (a.put O.dst v) w') : O.wp P a w K Q := by
  rw [evalO_eq] at he
  unfold evalO0 at he
  cases hX : isX O.op with
  | false =>
    simp only [hX, cond_false, Option.bind_eq_some_iff, Option.some.injEq, Prod.mk.injEq] at he
    obtain ⟨⟨q', x'⟩, he, rfl, rfl, rfl⟩ := he
    obtain ⟨v, h1, h2⟩ := evalP_run C R he hq
    unfold Oper.wp
    rw [h1, Oper.upon_value]
    exact hk ok V v w R h2
  | true =>
    simp only [hX, cond_true] at he
    unfold Oper.wp execOp
    generalize hO : O.op = o at he hX hnew
    cases o with
    | alloc t =>
      simp only [evalX, Option.bind_eq_some_iff, Option.some.injEq, Prod.mk.injEq] at he
      obtain ⟨k, hd, ti, hT, z, hz, _, rfl, rfl⟩ := he
      obtain ⟨zv, h1, h2, h3, h4⟩ := zero_ok (P := P) (w := w) (ok := ok) (V := V) (C _ _ hT) hz
      obtain ⟨V', hR, hr⟩ := R.box (t := t) (hnew rfl k hd) (h4 k) h3
      simp only [Instr.alloc, newVar, newRow, newObj, Sem.run_bind, h1, Result.andThen_ok, Sem.run, h2, Sem.run_pure]
      exact hk _ _ _ _ hR hr
    | box t y =>
      simp only [evalX, Option.bind_eq_some_iff] at he
      obtain ⟨k, hd, v, hv, ti, hT, he⟩ := he
      cases hf : (fits ti v && !ment k v) with
      | false => simp [hf] at he
      | true =>
        simp only [hf, cond_true, Option.some.injEq, Prod.mk.injEq] at he
        obtain ⟨_, rfl, rfl⟩ := he
        simp only [Bool.and_eq_true, Bool.not_eq_true'] at hf
        obtain ⟨hf, hmt⟩ := hf
        have rv := R.operand hv
        obtain ⟨cs, hc, hm⟩ : rel1 ok w V v (a.eval y) := by cases v <;> first | exact rv | simp [fits] at hf
        have hcells : (a.eval y).cells = cs.toArray := by
          rw [hm]
          by_cases hp : isPr v = true
          · simp [mk, hp, Value.cells]
          · have hs : size v = 1 := by cases v <;> first | rfl | simp [isPr] at hp
            match cs, hc.length.trans hs, hc with
            | [u], _, hc => simp [mk, hp, cells_one (hc.one R.vals u (by simp))]
        obtain ⟨V', hR, hr⟩ := R.box (t := t) (hnew rfl k hd) hmt hc
        simp only [Instr.box, newVar, newRow, newObj, Sem.run_bind, Result.andThen_ok, Sem.run, hcells, Sem.run_pure]
        exact hk _ _ _ _ hR hr
    | store t y z =>
      simp only [evalX, Option.bind_eq_some_iff] at he
      obtain ⟨av, ha, v, hv, ti, hT, he⟩ := he
      have ra := R.operand ha
      have rv := R.operand hv
      split at he
      · rename_i j p o
        have hav := rel_p ra
        split at he
        · rename_i bt zz hE
          simp only [Option.bind_eq_some_iff] at he
          obtain ⟨old, hs, he⟩ := he
          cases hb : (fits ti v && size v == size old && off zz p == o) with
          | false => simp [hb] at he
          | true =>
            simp only [hb, cond_true, Option.bind_eq_some_iff, Option.some.injEq, Prod.mk.injEq] at he
            obtain ⟨z', hu, _, rfl, rfl⟩ := he
            simp only [Bool.and_eq_true, beq_iff_eq] at hb
            obtain ⟨⟨hf, hsz⟩, ho⟩ := hb
            obtain ⟨cs, hc, hm⟩ : rel1 ok w V v (a.eval z) := by cases v <;> first | exact rv | simp [fits] at hf
            obtain ⟨pre, mid, post, hh, hp, hl, hR⟩ := upd_rel R hE hs hu hsz ho hc
            have hrun := run_storeVar_of (C _ _ hT) hf hc (hc.one R.vals) hh hp hl
            simp only [hav, hm, Instr.storeAt, Instr.sureAddr, Sem.run_bind, Sem.run_pure, Result.andThen_ok, hrun]
            exact hk _ _ _ _ hR ⟨fun hc => (by cases hc), fun _ => rfl⟩
        · cases he
      · rename_i j p o i
        have hav := rel_pb ra
        split at he
        · rename_i bt zz n hE
          split at he
          · rename_i h hs
            cases hbo : (off zz p == o) with
            | false => simp [hbo] at he
            | true =>
              simp only [hbo, cond_true, Option.bind_eq_some_iff, Option.some.injEq, Prod.mk.injEq] at he
              obtain ⟨z', hu, rfl, rfl, rfl⟩ := he
              obtain ⟨⟨hi0, hi1⟩, hn0, hn1⟩ := hq
              obtain ⟨cs, hc, hh⟩ := ent_box R hE
              obtain ⟨pre, post, mid, rfl, hp, hl, hn⟩ := hc.upd (el' := hdCells (setHb h i.toNat n)) hu hs rfl rfl
              have hmid : mid = hdCells h := by
                obtain ⟨pre', post', el, he1, hp1, rfl⟩ := hc.sub hs
                have e2 := congrArg (fun l => (l.drop (off zz p)).take 13) he1
                rw [List.append_assoc, List.append_assoc, List.drop_left' hp, List.drop_left' hp1, List.take_left' (by rw [hl, hdCells_length]), List.take_left' (hdCells_length h)] at e2
                exact e2
              subst hmid
              have hR := R.set hE hh hn
              rw [hdCells_setHb h i.toNat (by omega) n hn0 hn1] at hR
              have hsplit : hdCells h = (hdCells h).take i.toNat ++ [Value.int .u8 (hb h i)] ++ (hdCells h).drop (i.toNat + 1) := by
                have hlt : i.toNat < (hdCells h).length := by rw [hdCells_length]; omega
                have e := List.drop_eq_getElem_cons hlt
                rw [hdCells_get h i.toNat (by omega)] at e
                rw [List.append_assoc, List.singleton_append]
                have e' : (Value.int .u8 (hb h i) :: (hdCells h).drop (i.toNat + 1)) = (hdCells h).drop i.toNat := by rw [e]; rfl
                rw [e', List.take_append_drop]
              have hlen : ((hdCells h).take i.toNat).length = i.toNat := by simp [hdCells_length]; omega
              have hh' : w.heap[V.blk j]? = some (.cells ((pre ++ (hdCells h).take i.toNat) ++ [Value.int .u8 (hb h i)] ++ ((hdCells h).drop (i.toNat + 1) ++ post)).toArray bt (0, 0)) := by
                have e : pre ++ hdCells h ++ post = (pre ++ (hdCells h).take i.toNat) ++ [Value.int .u8 (hb h i)] ++ ((hdCells h).drop (i.toNat + 1) ++ post) := by
                  conv => lhs; rw [hsplit]
                  simp only [List.append_assoc]
                rw [hh, e]
              have hrun := run_storeVar_of (ok := ok) (V := V) (C _ _ hT) (v := .i .u8 n) (el := [.int .u8 n]) rfl rfl (by simp [Value.oneCell']) hh' (o := o + i.toNat) (by rw [List.length_append, hlen, hp, beq_iff_eq.1 hbo]) rfl
              have hm : a.eval z = mk (.i .u8 n) [.int .u8 n] := rel_i rv
              simp only [hav, hm, Instr.storeAt, Instr.sureAddr, Sem.run_bind, Sem.run_pure, Result.andThen_ok, hrun]
              have e3 : (pre ++ (hdCells h).take i.toNat ++ [.int .u8 n] ++ ((hdCells h).drop (i.toNat + 1) ++ post)) = pre ++ (hdCells h).set i.toNat (.int .u8 n) ++ post := by
                rw [List.set_eq_take_append_cons_drop, if_pos (by rw [hdCells_length]; omega)]
                simp
              rw [e3]
              exact hk _ _ _ _ hR ⟨fun hc => (by cases hc), fun _ => rfl⟩
          · cases he
        · cases he
      · cases he
    | makeFunc fn first captured =>
      cases fn with
      | func f =>
        obtain ⟨first⟩ := first
        obtain ⟨captured⟩ := captured
        match first, captured with
        | [], [y] =>
          simp only [evalX, Option.bind_eq_some_iff] at he
          obtain ⟨pv, hp, he⟩ := he
          split at he
          · rename_i j
            split at he
            · rename_i bt z hE
              cases hc : closed z with
              | false => simp [hc] at he
              | true =>
                simp only [hc, cond_true, Option.some.injEq, Prod.mk.injEq] at he
                obtain ⟨_, rfl, rfl⟩ := he
                obtain ⟨cs, hz, hh⟩ : RepE ok w V w0.heap.size j (.box bt z) := hE ▸ R.mem j
                obtain ⟨ok', R', hmono, hokr⟩ := R.freeze hE hh
                have hv := rel_p (R.operand hp)
                simp only [Instr.makeFunc, List.map_toArray, List.map_cons, List.map_nil, Sem.run_bind, Sem.run_pure, Result.andThen_ok, hv]
                refine hk ok' V _ w R' ?_
                exact ⟨_, ⟨_, cs, rfl, hokr, hz.keep ⟨hmono, fun _ _ => rfl⟩ Same.refl, reads_box hh⟩, rfl⟩
            · cases he
          · cases he
        | [], [] => simp [evalX] at he
        | [], _ :: _ :: _ => simp [evalX] at he
        | _ :: _, _ => simp [evalX] at he
      | _ => simp [isX] at hX
    | call c =>
      have h := call_wp (a := a) (O := O) (K := K) (Q := Q) G R (d := O.dst) he hq (fun w' v ok' hb hm hv => by
        have : ef = none := by
          simp only [evalX] at he
          split at he
          · simp only [Option.bind_eq_some_iff] at he
            obtain ⟨sp, _, vs, _, r, _, he⟩ := he
            cases hb : (closedAll vs && closed r.2) with
            | false => simp [hb] at he
            | true => simp only [hb, cond_true, Option.some.injEq, Prod.mk.injEq] at he; exact he.2.2.symm
          · simp only [Option.bind_eq_some_iff] at he
            obtain ⟨cv, _, he⟩ := he
            cases cv with
            | cl f y =>
              simp only [Option.bind_eq_some_iff] at he
              obtain ⟨sp, _, vs, _, r, _, he⟩ := he
              cases hb : (closedAll (vs ++ [.rp y]) && closed r.2) with
              | false => simp [hb] at he
              | true => simp only [hb, cond_true, Option.some.injEq, Prod.mk.injEq] at he; exact he.2.2.symm
            | _ => cases he
          · cases he
        subst this
        exact hk _ _ v w' (R.called hb hm) hv) hO
      unfold Oper.wp execOp at h
      simp only [hO] at h
      exact h
    | assign y =>
      have hy : isNilC y = true := hX
      simp only [evalX, hy, cond_true, Option.bind_eq_some_iff, Option.some.injEq, Prod.mk.injEq] at he
      obtain ⟨k, hd, _, rfl, rfl⟩ := he
      obtain ⟨V', hR, hr⟩ := R.nil (hnew hy k hd)
      have hv : a.eval y = .slice none 0 0 := by
        unfold isNilC at hy
        split at hy
        · rfl
        · cases hy
      simp only [hv, Sem.run_pure]
      exact hk _ _ _ _ hR hr
    | buildSlice t n ps =>
      simp only [evalX, Option.bind_eq_some_iff] at he
      obtain ⟨k, hd, ti, hT, he⟩ := he
      split at he
      · rename_i et e
        simp only [Option.bind_eq_some_iff] at he
        obtain ⟨l, hl, he⟩ := he
        cases hb : (l.length == n && Nat.ble n 1000) with
        | false => simp [hb] at he
        | true =>
          simp only [hb, cond_true, Option.some.injEq, Prod.mk.injEq] at he
          obtain ⟨_, rfl, rfl⟩ := he
          simp only [Bool.and_eq_true, beq_iff_eq] at hb
          have hm : n ≤ 1000 := by simpa using hb.2
          have hrun := run_buildSlice_of R (C _ _ hT) hl hb.1 hm
          have hN := R.below.size
          have hlen : (l.flatMap e.cells).length = n * e.sz := by rw [← hb.1]; exact flat_len e l
          have hown := World.ownsRow_lit (base := w0.heap.size) (e := et) (size := e.sz) w (l.flatMap e.cells).toArray n hN (by simp [maxLen]; omega) (by simpa using hlen)
          obtain ⟨rfl, _⟩ := hb
          obtain ⟨V', ok', hR, hr⟩ := R.grown (w' := w.alloc (.cells (l.flatMap e.cells).toArray et)) (v' := .slice (some ⟨w.heap.size, 0, none⟩) l.length l.length) (hnew rfl k hd) (l := l) (e := e) (et := et) hown rfl rfl rfl (by simp) (fun k hk _ => Below.heap_alloc w _ k hk) (fun A hA => World.cell?_of_block (Below.heap_alloc w _ _ (R.oks _ _ hA).1)) (fun b hb => .inr (by simp [Value.ownBlock] at hb; omega))
          simp only [Sem.run_bind, hrun, Result.andThen_ok, Sem.run_pure]
          exact hk _ _ _ _ hR hr
      · cases he
    | makeSlice t x y =>
      simp only [evalX, Option.bind_eq_some_iff] at he
      obtain ⟨k, hd, ti, hT, lv, hl, cv, hc, he⟩ := he
      split at he
      · rename_i et e kl l kc c
        cases hb : (decide (l = 0) && decide (0 ≤ c) && decide (c ≤ 100000)) with
        | false => simp [hb] at he
        | true =>
          simp only [hb, cond_true, Option.some.injEq, Prod.mk.injEq] at he
          obtain ⟨_, rfl, rfl⟩ := he
          simp only [Bool.and_eq_true, decide_eq_true_eq] at hb
          obtain ⟨⟨rfl, h0⟩, h1⟩ := hb
          obtain ⟨hu, ⟨i, z, hi, hsz, hz, hzs, hby⟩, _⟩ := C _ _ hT
          obtain ⟨c, rfl⟩ := Int.eq_ofNat_of_zero_le h0
          have hN := R.below.size
          have hbytes : i.bytes * c ≤ 281474976710656 := by
            have := Nat.mul_le_mul hby (show c ≤ 100000 by omega)
            omega
          obtain ⟨w', hrun, hown, hg⟩ := run_make_own (P := P) w w0.heap.size t et i z e.sz hu hi hz hsz kl kc c hbytes (by simp [maxLen]; omega) hN
          have hlt : ∀ k, k < w.heap.size → w'.heap[k]? = w.heap[k]? := fun k hk => hg.block k hk (by simp)
          obtain ⟨V', ok', hR, hr⟩ := R.grown (hnew rfl k hd) (l := []) (e := e) hown hg.os hg.tape hg.output hg.size (fun k hk _ => hlt k hk) (fun A hA => World.cell?_of_block (hlt _ (R.oks _ _ hA).1)) (fun b hb => .inr (by simp [Value.ownBlock] at hb; omega))
          simp only [rel_i (R.operand hl), rel_i (R.operand hc), Sem.run_bind, hrun, Result.andThen_ok, Sem.run_pure]
          exact hk _ _ _ _ hR hr
      · cases he
    | _ => simp [isX] at hX
end
end Mx
