/- What the evaluator computes is what the operation does: operations that change nothing. Own work; any program. -/
import Derived.Test.YtlnofclfpcmneaaXb
namespace Mx
open Go Go.RowKit
def aggT : TI → Bool
  | .hd | .st _ _ _ _ => true
  | _ => false
def szT : TI → Nat
  | .hd => 13
  | .st _ sz _ _ => sz
  | _ => 1
def lenOf : Value → Nat
  | .slice _ n _ => n
  | _ => 0
def RepE (ok : Nat → Nat → Prop) (w : World) (V : Env) (N : Nat) (j : Nat) : Ent → Prop
  | .box t x => ∃ cs, relC ok w V x cs ∧ w.heap[V.blk j]? = some (.cells cs.toArray t (0, 0))
  | .own0 => V.val j = .slice none 0 0
  | .own et e => ∃ xs, w.ownsRow N et e.sz (V.val j) (lenOf (V.val j)) xs
  | .gone => True
def blkOf (V : Env) (j : Nat) : Ent → Option Nat
  | .box _ _ => some (V.blk j)
  | .own0 | .own _ _ => (V.val j).ownBlock
  | .gone => none
/-- from this cell on nobody reads -/
def fromOf (V : Env) (j : Nat) : Ent → Nat
  | .own _ e => lenOf (V.val j) * e.sz
  | _ => 0
def relAll (ok : Nat → Nat → Prop) (w : World) (V : Env) : List SV → List Value → Prop
  | [], vs => vs = []
  | x :: r, v :: vs => relV ok w V x v ∧ relAll ok w V r vs
  | _ :: _, [] => False
structure Rep (nt : Nat) (w0 : World) (ok0 ok : Nat → Nat → Prop) (V : Env) (tm : Tm) (me : Nat → Ent) (a : Act) (w : World) : Prop where
  defers : a.defers = []
  size : a.tmps.size = nt
  tmps : ∀ t x, tm t = some x → relV ok w V x (a.tmps.getD t undef)
  mem : ∀ j, RepE ok w V w0.heap.size j (me j)
  apart : ∀ j j' b, blkOf V j (me j) = some b → blkOf V j' (me j') = some b → j = j'
  mine : ∀ j b, blkOf V j (me j) = some b → w0.heap.size ≤ b ∧ b < w.heap.size ∧ ∀ k, fromOf V j (me j) ≤ k → ¬ ok b k
  oks : ∀ b k, ok b k → b < w.heap.size ∧ (ok0 b k ∨ w0.heap.size ≤ b)
  ok0 : ∀ b k, ok0 b k → ok b k
  below : Below w0.heap.size w0 w
  vals : ∀ j, (V.val j).oneCell' = true
section
variable {P : Program} {cx : Ctx} {nt : Nat} {w0 : World} {ok0 ok : Nat → Nat → Prop} {V : Env} {tm : Tm} {me : Nat → Ent} {a : Act} {w : World}
theorem getD_tmps (a : Act) (t : Nat) : a.eval (.tmp t) = a.tmps.getD t undef := rfl
theorem ofConst_rel {v : Value} {x : SV} (h : ofConst v = some x) : relV ok w V x v := by
  unfold ofConst at h
  split at h <;> simp only [Option.some.injEq, reduceCtorEq] at h <;> subst h
  · exact ⟨_, rfl, rfl⟩
  · exact ⟨_, rfl, rfl⟩
  · exact ⟨_, rfl, rfl⟩
  · exact ⟨_, rfl, rfl⟩
  · rename_i h1 h2 h3 h4 h5 h6
    refine ⟨_, ⟨rfl, ?_⟩, rfl⟩
    cases v <;> first | rfl | exact (h4 _ rfl).elim | exact (h5 _ rfl).elim
theorem Rep.operand (R : Rep nt w0 ok0 ok V tm me a w) {x : Operand} {v : SV} (h : operand tm x = some v) : relV ok w V v (a.eval x) := by
  cases x with
  | tmp t => exact R.tmps t v h
  | const c => exact ofConst_rel h
  | global g => simp [Mx.operand] at h
  | func f => simp [Mx.operand] at h
theorem relV_of_rel1 {x : SV} {v : Value} (h : rel1 ok w V x v) : relV ok w V x v := by
  cases x with
  | tp => obtain ⟨_, h, _⟩ := h; exact h.elim
  | on => obtain ⟨_, h, _⟩ := h; exact h.elim
  | un => obtain ⟨_, h, _⟩ := h; exact h.elim
  | _ => exact h
theorem rel_ow {j : Nat} {x : SV} {v : Value} (h : relV ok w V (.ow j x) v) : relV ok w V x v := by
  obtain ⟨cs, ⟨_, hp, h1⟩, h2⟩ := h
  refine relV_of_rel1 ⟨cs, h1, ?_⟩
  rw [h2]
  have : isPr (.ow j x) = false := rfl
  simp only [mk, this, hp]
theorem rel_bare {x : SV} {v : Value} (h : relV ok w V x v) : relV ok w V (bare x) v := by
  cases x <;> first | exact rel_ow h | exact h
theorem Rep.operandB (R : Rep nt w0 ok0 ok V tm me a w) {x : Operand} {v : SV} (h : operandB tm x = some v) : relV ok w V v (a.eval x) := by
  obtain ⟨y, hy, rfl⟩ := Option.map_eq_some_iff.1 h
  exact rel_bare (R.operand hy)
theorem relAll_barely : ∀ {xs : List SV} {vs : List Value}, relAll ok w V xs vs → relAll ok w V (barely xs) vs
  | [], _, h => h
  | _ :: _, [], h => h.elim
  | _ :: _, _ :: _, ⟨h1, h2⟩ => ⟨rel_bare h1, relAll_barely h2⟩
theorem Rep.operands (R : Rep nt w0 ok0 ok V tm me a w) : ∀ {xs : List Operand} {vs : List SV}, operands tm xs = some vs → relAll ok w V vs (xs.map a.eval)
  | [], vs, h => by simp only [Mx.operands, Option.some.injEq] at h; subst h; rfl
  | x :: r, vs, h => by
    simp only [Mx.operands, Option.bind_eq_some_iff] at h
    obtain ⟨v, hv, us, hu, h⟩ := h
    injection h with h; subst h
    exact ⟨R.operand hv, R.operands hu⟩
/-! ### a value's own shape -/
theorem rel_i {k : IntKind} {n : Int} {v : Value} (h : relV ok w V (.i k n) v) : v = .int k n := by obtain ⟨cs, rfl, rfl⟩ := h; rfl
theorem rel_b {x : Bool} {v : Value} (h : relV ok w V (.b x) v) : v = .bool x := by obtain ⟨cs, rfl, rfl⟩ := h; rfl
theorem rel_s {x : ByteArray} {v : Value} (h : relV ok w V (.s x) v) : v = .string x := by obtain ⟨cs, rfl, rfl⟩ := h; rfl
theorem rel_hd {x : Hd} {v : Value} (h : relV ok w V (.hd x) v) : v = .agg (hdCells x).toArray := by obtain ⟨cs, rfl, rfl⟩ := h; rfl
theorem rel_pr {x y : SV} {v : Value} (h : relV ok w V (.pr x y) v) : ∃ cs, relC ok w V (.pr x y) cs ∧ v = .agg cs.toArray := h
theorem rel_sl {e : E} {l : List e.T} {v : Value} (h : relV ok w V (.sl e l) v) : ∃ A c, v = .slice A l.length c ∧ l.length ≤ c ∧ RowAt ok w A e l := by
  obtain ⟨cs, ⟨A, c, rfl, hl, hr⟩, rfl⟩ := h
  exact ⟨A, c, rfl, hl, hr⟩
theorem rel_p {j o : Nat} {q : List Bool} {v : Value} (h : relV ok w V (.p j q o) v) : v = .pointer (some ⟨V.blk j, o, none⟩) := by
  obtain ⟨cs, rfl, rfl⟩ := h; rfl
theorem rel_pb {j o : Nat} {q : List Bool} {i : Int} {v : Value} (h : relV ok w V (.pb j q o i) v) : v = .pointer (some ⟨V.blk j, o + i.toNat, none⟩) := by
  obtain ⟨cs, rfl, rfl⟩ := h; rfl
theorem rel_rp {x : SV} {v : Value} (h : relV ok w V (.rp x) v) : ∃ A el, v = .pointer (some A) ∧ OkR ok A el.length ∧ relC ok w V x el ∧ ReadsAt w A el := by
  obtain ⟨cs, ⟨A, el, rfl, h1, h2, h3⟩, rfl⟩ := h; exact ⟨A, el, rfl, h1, h2, h3⟩
theorem rel_cl {f : FuncId} {x : SV} {v : Value} (h : relV ok w V (.cl f x) v) : ∃ A el, v = .func (.func f) #[] #[.pointer (some A)] ∧ OkR ok A el.length ∧ relC ok w V x el ∧ ReadsAt w A el := by
  obtain ⟨cs, ⟨A, el, rfl, h1, h2, h3⟩, rfl⟩ := h; exact ⟨A, el, rfl, h1, h2, h3⟩
theorem rel_rb {h : Hd} {i : Int} {v : Value} (r : relV ok w V (.rb h i) v) : ∃ A : Addr, v = .pointer (some (A.add i.toNat)) ∧ OkR ok A 13 ∧ ReadsAt w A (hdCells h) := by
  obtain ⟨cs, ⟨A, rfl, h1, h2⟩, rfl⟩ := r; exact ⟨A, rfl, h1, h2⟩
/-- a flat tree's cells -/
theorem relC_flat {x : SV} : ∀ {z : SV} {cs : List Value}, skel x z = true → relC ok w V x cs → cs = flat x := by
  induction x with
  | pr a b iha ihb =>
    intro z cs hz hr
    cases z <;> simp only [skel, Bool.false_eq_true, Bool.and_eq_true] at hz
    obtain ⟨c1, c2, rfl, h1, h2⟩ := hr
    rw [iha hz.1 h1, ihb hz.2 h2]; rfl
  | i | b | s | hd => intro z cs hz hr; cases z <;> first | exact hr | simp [skel] at hz
  | _ => intro z cs hz hr; cases z <;> simp [skel] at hz
theorem relC_of_flat {x : SV} : ∀ {z : SV}, skel x z = true → relC ok w V x (flat x) := by
  induction x with
  | pr a b iha ihb =>
    intro z hz
    cases z <;> simp only [skel, Bool.false_eq_true, Bool.and_eq_true] at hz
    exact ⟨_, _, rfl, iha hz.1, ihb hz.2⟩
  | i | b | s | hd => intro z hz; rfl
  | _ => intro z hz; cases z <;> simp [skel] at hz
theorem flat_length {x : SV} : ∀ {z : SV}, skel x z = true → (flat x).length = size x := by
  intro z hz
  exact (relC_of_flat (ok := fun _ _ => True) (w := default) (V := ⟨fun _ => 0, fun _ => undef⟩) hz).length
theorem tree_flat (e : E) (x : e.T) : relC ok w V (e.tree x) (e.cells x) := by
  have : skel (e.tree x) (e.tree x) = true := by cases e <;> simp [E.tree, skel]
  exact relC_of_flat this
/-! ### reads -/
theorem run_isAgg_of {t : TypeId} {ti : TI} (h : TyOK P t ti) : (isAgg t).run P w = .ok (aggT ti) w := by
  cases ti with
  | int k => simp [isAgg, run_underlying h.1, aggT]
  | bo => simp [isAgg, run_underlying h.1, aggT]
  | str => simp [isAgg, run_underlying h.1, aggT]
  | sc =>
    obtain ⟨⟨d, hd, hp⟩, _⟩ := h
    cases d <;> simp [isAgg, run_underlying hd, aggT] <;> simp [Plain] at hp
  | hd => obtain ⟨e, he, _⟩ := h; simp [isAgg, run_underlying he, aggT]
  | st => obtain ⟨gs, hg, _⟩ := h; simp [isAgg, run_underlying hg, aggT]
  | sl => obtain ⟨he, _⟩ := h; simp [isAgg, run_underlying he, aggT]
theorem run_sizeOf_of {t : TypeId} {ti : TI} (h : TyOK P t ti) : (Go.sizeOf t).run P w = .ok (szT ti) w := by
  have one : Cell1 P t → (Go.sizeOf t).run P w = .ok 1 w := fun ⟨i, hi, hs⟩ => by simp [Go.sizeOf, typeInfo, hi, hs]
  cases ti with
  | int k => exact one h.2.1
  | bo => exact one h.2.1
  | str => exact one h.2
  | sc => exact one h.2
  | hd => obtain ⟨e, _, _, _, ⟨i, hi, hs, _⟩, _⟩ := h; simp [Go.sizeOf, typeInfo, hi, hs, szT]
  | st => obtain ⟨gs, _, _, _, ⟨i, hi, hs, _⟩, _⟩ := h; simp [Go.sizeOf, typeInfo, hi, hs, szT]
  | sl => exact one h.2.2.2
theorem fits_size {ti : TI} {z : SV} (h : fits ti z = true) : size z = (szT ti) ∧ isPr z = (aggT ti) := by
  cases ti <;> cases z <;> first | (exact absurd (show false = true from h) Bool.false_ne_true) | exact ⟨rfl, rfl⟩ | (exact ⟨by simpa [fits, szT] using h, rfl⟩)
/-- what is read at an address where a fitting tree stands -/
theorem run_loadVar_of {t : TypeId} {ti : TI} (h : TyOK P t ti) {z : SV} (hz : fits ti z = true) {A : Addr} {el : List Value} (hr : relC ok w V z el) (hA : ReadsAt w A el) :
    (loadVar t A).run P w = .ok (mk z el) w := by
  obtain ⟨h1, h2⟩ := fits_size hz
  have hl := hr.length
  by_cases hp : isPr z = true
  · have hag := run_isAgg_of (w := w) h
    have hsz := run_sizeOf_of (w := w) h
    rw [← h2, hp] at hag
    rw [← h1, ← hl] at hsz
    have hc : (loadCells A el.length).run P w = .ok el.toArray w := run_loadCells_list w A el (fun j v hv => by
      obtain ⟨hj, rfl⟩ := List.getElem?_eq_some_iff.1 hv
      exact hA j hj)
    simp [loadVar, hag, hsz, hc, mk, hp]
  · have hp : isPr z = false := by simpa using hp
    have hag := run_isAgg_of (w := w) h
    rw [← h2, hp] at hag
    have hs : size z = 1 := by
      cases z <;> first | rfl | simp [isPr] at hp
    match el, hl.trans hs with
    | [v], _ =>
      have h0 := hA 0 (by simp)
      simp only [Addr.add_zero', List.getElem_cons_zero] at h0
      simp [loadVar, hag, load, Sem.run, h0, mk, hp]
theorem ReadsAt.part {A : Addr} {pre el post : List Value} (h : ReadsAt w A (pre ++ el ++ post)) : ReadsAt w (A.add pre.length) el := fun k hk => by
  have h' := h (pre.length + k) (by simp; omega)
  rw [add_add, h']
  simp [hk]
theorem reads_box {b : Nat} {cs : List Value} {t : TypeId} (h : w.heap[b]? = some (.cells cs.toArray t (0, 0))) : ReadsAt w ⟨b, 0, none⟩ cs := fun k hk => by
  have : (⟨b, 0, none⟩ : Addr).add k = ⟨b, k, none⟩ := by unfold Addr.add; split <;> simp_all
  rw [this]
  simp [World.cell?, h, hk]
theorem add_none (b o k : Nat) : (⟨b, o, none⟩ : Addr).add k = ⟨b, o + k, none⟩ := by unfold Addr.add; split <;> simp_all
theorem hbn_lt (h : Hd) (k : Nat) : hbn h k < 256 := Nat.mod_lt _ (by omega)
theorem hdCells_get (h : Hd) (k : Nat) (hk : k < 13) : (hdCells h)[k]'(by rw [hdCells_length]; exact hk) = .int .u8 (hbn h k) := by simp [hdCells]
end
end Mx
