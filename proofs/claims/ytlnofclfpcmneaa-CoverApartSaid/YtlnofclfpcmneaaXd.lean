/- One operation that changes nothing: the evaluator's word is the operation's value. Own work; any program. -/
import Derived.Test.YtlnofclfpcmneaaXc
import Derived.Laws.BytesString
import Derived.Laws.Strings
import Derived.Laws.Slices
import Derived.Laws.Small
namespace Mx
open Go Go.RowKit
section
variable {P : Program} {cx : Ctx} {nt : Nat} {w0 : World} {ok0 ok : Nat → Nat → Prop} {V : Env} {tm : Tm} {me : Nat → Ent} {a : Act} {w : World}
def Gives (P : Program) (ok : Nat → Nat → Prop) (V : Env) (a : Act) (O : Oper) (w : World) (x : SV) : Prop :=
  ∃ v, (execOp a.eval O).run P w = .ok (.value v) w ∧ relV ok w V x v
theorem rel_int (k : IntKind) (n : Int) : relV ok w V (.i k n) (.int k n) := ⟨_, rfl, rfl⟩
theorem rel_bool (b : Bool) : relV ok w V (.b b) (.bool b) := ⟨_, rfl, rfl⟩
theorem binI_run {op : BinOp} {k : IntKind} {m n : Int} {q : Prop} {x : SV} (h : binI op k m n = some (q, x)) (hq : q) (t : TypeId) (A B : Operand) (w : World) :
    ∃ v, (do eqGuard op t A B (.int k m) (.int k n); binOp op t (.int k m) (.int k n) : Sem Value).run P w = .ok v w ∧ relV ok w V x v := by
  rw [eqGuard_at_int]
  cases op <;> simp only [binI, Option.some.injEq, Prod.mk.injEq, reduceCtorEq] at h <;> obtain ⟨rfl, rfl⟩ := h
  · exact ⟨_, by simp [binOp_add, Op.intArith], rel_int _ _⟩
  · exact ⟨_, by simp [binOp_sub, Op.intArith], rel_int _ _⟩
  · exact ⟨_, by simp [binOp_mul, Op.intArith], rel_int _ _⟩
  · exact ⟨_, by simp [binOp_quo, Op.intDiv, hq], rel_int _ _⟩
  · exact ⟨_, by simp [binOp_rem, Op.intDiv, hq], rel_int _ _⟩
  · exact ⟨_, by simp [binOp_and, intBits_and], rel_int _ _⟩
  · exact ⟨_, by simp [binOp_or, intBits_or], rel_int _ _⟩
  · exact ⟨_, by simp [binOp_xor, intBits_xor], rel_int _ _⟩
  · exact ⟨_, by simp [binOp_andNot, intBits_andNot], rel_int _ _⟩
  · exact ⟨_, by simp [binOp_eql], rel_bool _⟩
  · exact ⟨_, by simp [binOp_neq], rel_bool _⟩
  · exact ⟨_, by simp [binOp_lss], rel_bool _⟩
  · exact ⟨_, by simp [binOp_leq], rel_bool _⟩
  · exact ⟨_, by simp [binOp_gtr], rel_bool _⟩
  · exact ⟨_, by simp [binOp_geq], rel_bool _⟩
theorem run_equalIn_bool (d : Nat) {t : TypeId} (hb : P.underlying t = some .bool) (m n : Bool) : (Op.equalIn (d + 1) t (.bool m) (.bool n)).run P w = .ok (m == n) w := by
  simp [Op.equalIn, run_underlying hb]
theorem run_equal_bool {t : TypeId} (hb : P.underlying t = some .bool) (m n : Bool) : (Op.equal t (.bool m) (.bool n)).run P w = .ok (m == n) w := run_equalIn_bool 9999 hb m n
theorem binOp_eql_bool (t : TypeId) (m n : Bool) : binOp .eql t (.bool m) (.bool n) = (do pure (.bool (← Op.equal t (.bool m) (.bool n)))) := rfl
theorem binOp_neq_bool (t : TypeId) (m n : Bool) : binOp .neq t (.bool m) (.bool n) = (do pure (.bool (!(← Op.equal t (.bool m) (.bool n))))) := rfl
theorem binOp_eql_string (t : TypeId) (m n : ByteArray) : binOp .eql t (.string m) (.string n) = Op.stringOp .eql m n := rfl
theorem binOp_neq_string (t : TypeId) (m n : ByteArray) : binOp .neq t (.string m) (.string n) = Op.stringOp .neq m n := rfl
theorem bound_rel (R : Rep nt w0 ok0 ok V tm me a w) {o : Option Operand} {d n : Int} (h : bound tm o d = some n) : (o = none ∧ n = d) ∨ ∃ x k, o = some x ∧ a.eval x = .int k n := by
  unfold bound at h
  split at h
  · exact .inl ⟨rfl, by simpa using h.symm⟩
  · split at h
    · rename_i k m hx
      simp only [Option.some.injEq] at h
      subst h
      exact .inr ⟨_, k, rfl, rel_i (R.operand hx)⟩
    · cases h
theorem RowAt.cut {A : Option Addr} {e : E} {l : List e.T} (h : RowAt ok w A e l) (i j : Nat) : RowAt ok w (A.map (·.add (i * e.sz))) e ((l.take j).drop i) := fun k hk => by
  simp only [List.length_drop, List.length_take] at hk
  obtain ⟨a, rfl, h1, h2⟩ := h (i + k) (by omega)
  refine ⟨a.add (i * e.sz), rfl, ?_, ?_⟩
  · rw [add_add, ← Nat.add_mul]; exact h1
  · rw [add_add, ← Nat.add_mul, List.getElem_drop, List.getElem_take]; exact h2
theorem binV_run (C : TysOK P cx.tys) {op : BinOp} {t : TypeId} {x y r : SV} {q : Prop} (h : binV cx op t x y = some (q, r)) (hq : q) {u v : Value} (hu : relV ok w V x u) (hv : relV ok w V y v) (A B : Operand) :
    ∃ z, (do eqGuard op t A B u v; binOp op t u v : Sem Value).run P w = .ok z w ∧ relV ok w V r z := by
  unfold binV at h
  split at h
  · rename_i k m k' n
    obtain rfl := rel_i hu
    obtain rfl := rel_i hv
    split at h
    · simp only [shV, Option.some.injEq, Prod.mk.injEq] at h
      obtain ⟨rfl, rfl⟩ := h
      exact ⟨_, by simp [eqGuard_shl, binOp_shl, Op.shift, Int.not_lt.2 hq], rel_int _ _⟩
    · simp only [shV, Option.some.injEq, Prod.mk.injEq] at h
      obtain ⟨rfl, rfl⟩ := h
      exact ⟨_, by simp [eqGuard_shr, binOp_shr, Op.shift, Int.not_lt.2 hq], rel_int _ _⟩
    · cases hk : (k == k') with
      | false => simp [hk] at h
      | true =>
        simp only [hk, cond_true] at h
        obtain rfl : k = k' := by simpa using hk
        exact binI_run h hq t A B w
  · obtain rfl := rel_b hu
    obtain rfl := rel_b hv
    split at h
    · rename_i hT
      have hb := (C _ _ hT).1
      rw [eqGuard_at_bool]
      cases op <;> simp only [negB, Option.some.injEq, Prod.mk.injEq, reduceCtorEq] at h <;> obtain ⟨rfl, rfl⟩ := h
      · exact ⟨_, by simp [binOp_eql_bool, run_equal_bool hb], rel_bool _⟩
      · exact ⟨_, by simp [binOp_neq_bool, run_equal_bool hb], rel_bool _⟩
    · cases h
  · rename_i m n
    obtain rfl := rel_hd hu
    obtain rfl := rel_hd hv
    split at h
    · rename_i hT
      obtain ⟨_, _, _, _, _, he⟩ := C _ _ hT
      obtain ⟨h1, h2⟩ := he (.hd m) (.hd n) rfl rfl A B w
      cases op <;> simp only [negB, Option.some.injEq, Prod.mk.injEq, reduceCtorEq] at h <;> obtain ⟨rfl, rfl⟩ := h
      · exact ⟨_, h1, rel_bool _⟩
      · exact ⟨_, h2, rel_bool _⟩
    · cases h
  · obtain rfl := rel_s hu
    obtain rfl := rel_s hv
    split at h
    · rename_i hT
      have hb := (C _ _ hT).1
      rw [eqGuard_at_string]
      cases op <;> simp only [negB, Option.some.injEq, Prod.mk.injEq, reduceCtorEq] at h <;> obtain ⟨rfl, rfl⟩ := h
      · exact ⟨_, by simp [binOp_eql_string, Op.stringOp], rel_bool _⟩
      · exact ⟨_, by simp [binOp_neq_string, Op.stringOp], rel_bool _⟩
    · cases h
  · rename_i m n m' n'
    obtain ⟨cs, hc, rfl⟩ := rel_pr hu
    obtain ⟨ds, hd, rfl⟩ := rel_pr hv
    split at h
    · rename_i z hT
      obtain ⟨_, _, _, _, _, _, _, _, he⟩ := C _ _ hT
      cases hs : (skel (.pr m n) z && skel (.pr m' n') z) with
      | false => simp [hs] at h
      | true =>
        simp only [hs, cond_true] at h
        simp only [Bool.and_eq_true] at hs
        obtain ⟨h1, h2⟩ := he rfl _ _ hs.1 hs.2 A B w
        rw [← relC_flat hs.1 hc, ← relC_flat hs.2 hd] at h1 h2
        cases op <;> simp only [negB, Option.some.injEq, Prod.mk.injEq, reduceCtorEq] at h <;> obtain ⟨rfl, rfl⟩ := h
        · exact ⟨_, h1, rel_bool _⟩
        · exact ⟨_, h2, rel_bool _⟩
    · cases h
  · cases h
theorem unV_run {op : UnOp} {x r : SV} (h : unV op x = some r) {u : Value} (hu : relV ok w V x u) : ∃ z, (Op.unary op u).run P w = .ok z w ∧ relV ok w V r z := by
  unfold unV at h
  split at h
  · injection h with h; subst h
    obtain rfl := rel_b hu
    exact ⟨_, by simp [Op.unary], rel_bool _⟩
  · injection h with h; subst h
    obtain rfl := rel_i hu
    exact ⟨_, by simp [Op.unary, Op.intArith], rel_int _ _⟩
  · injection h with h; subst h
    obtain rfl := rel_i hu
    exact ⟨_, by simp [Op.unary, intBits_xor, IntKind.signed, IntKind.max, IntKind.bits], rel_int _ _⟩
  · cases h
theorem tup_rel : ∀ {x z : SV} {k : Nat} {vs : List Value}, tup x k = some z → relL ok w V x vs → ∃ v, vs[k]? = some v ∧ relV ok w V z v := by
  intro x
  induction x with
  | tp a b _ ihb =>
    rintro z k vs h ⟨v, r, rfl, h1, h2⟩
    cases k with
    | zero => simp only [tup] at h; injection h with h; subst h; exact ⟨v, rfl, relV_of_rel1 h1⟩
    | succ k =>
      obtain ⟨u, hu, hr⟩ := ihb (z := z) (k := k) (by simpa only [tup] using h) h2
      exact ⟨u, by simpa using hu, hr⟩
  | on c y => intro z k vs h; cases k <;> simp [tup] at h
  | un => rintro z k vs h ⟨v, _, _, h1, _⟩; exact h1.elim
  | _ =>
    rintro z k vs h ⟨v, rfl, h1⟩
    cases k with
    | zero => simp only [tup] at h; injection h with h; subst h; exact ⟨v, rfl, relV_of_rel1 h1⟩
    | succ k => simp [tup] at h
theorem ent_box (R : Rep nt w0 ok0 ok V tm me a w) {j : Nat} {t : TypeId} {x : SV} (h : me j = .box t x) : ∃ cs, relC ok w V x cs ∧ w.heap[V.blk j]? = some (.cells cs.toArray t (0, 0)) := by
  have := R.mem j
  rwa [h] at this
theorem mk_rel {x : SV} {cs : List Value} (h : relC ok w V x cs) : relV ok w V x (mk x cs) := relV_of_rel1 ⟨cs, h, rfl⟩
theorem load_box (C : TysOK P cx.tys) (R : Rep nt w0 ok0 ok V tm me a w) {t bt : TypeId} {ti : TI} (hT : tyOf cx.tys t = some ti) {j o : Nat} {y z : SV} {q : List Bool}
    (he : me j = .box bt y) (hs : sub y q = some z) (hf : fits ti z = true) (ho : off y q = o) :
    ∃ v, (loadVar t ⟨V.blk j, o, none⟩).run P w = .ok v w ∧ relV ok w V z v := by
  obtain ⟨cs, hc, hh⟩ := ent_box R he
  obtain ⟨pre, post, el, rfl, hp, hel⟩ := hc.sub hs
  have := (reads_box hh).part
  rw [add_none, Nat.zero_add, hp, ho] at this
  exact ⟨_, run_loadVar_of (C _ _ hT) hf hel this, mk_rel hel⟩
theorem hd_byte {A : Addr} {h : Hd} (hr : ReadsAt w A (hdCells h)) {i : Int} (h0 : 0 ≤ i) (h1 : i < 13) : w.cell? (A.add i.toNat) = some (.int .u8 (hb h i)) := by
  have := hr i.toNat (by rw [hdCells_length]; omega)
  rw [this, hdCells_get _ _ (by omega)]
  rfl
theorem run_loadVar_u8 {t : TypeId} (h : TyOK P t (.int .u8)) {A : Addr} {n : Int} (hc : w.cell? A = some (.int .u8 n)) : (loadVar t A).run P w = .ok (.int .u8 n) w := by
  have hag := run_isAgg_of (w := w) h
  simp [loadVar, hag, aggT, load, Sem.run, hc]
theorem run_field {t : TypeId} {fs : List (Nat × TypeId)} {sz : Nat} {zr : SV} {eq : Bool} (h : TyOK P t (.st fs sz zr eq)) {k : Nat} {f : Nat × TypeId} (hf : fs[k]? = some f) :
    ∃ gs g, P.underlying t = some (.struct gs) ∧ gs[k]? = some g ∧ g.offset = f.1 ∧ g.type = f.2 ∧ ∃ i, P.info? g.type = some i ∧ i.size ≠ 0 := by
  obtain ⟨gs, hg, rfl, hi, _⟩ := h
  rw [List.getElem?_map, Option.map_eq_some_iff] at hf
  obtain ⟨g, hk, rfl⟩ := hf
  exact ⟨gs, g, hg, by simpa using hk, rfl, rfl, hi g (List.mem_of_getElem? hk)⟩
theorem off_append : ∀ {q r : List Bool} {x y : SV}, sub x q = some y → off x (q ++ r) = off x q + off y r
  | [], r, x, y, h => by simp only [sub, Option.some.injEq] at h; subst h; simp [off]
  | b :: q, r, x, y, h => by
    cases x with
    | pr c d => cases b <;> simp only [sub] at h <;> simp [off, off_append h, Nat.add_assoc]
    | _ => simp [sub] at h
theorem hbn_ofB (f : Nat → Nat) (k : Nat) (hk : k < 13) : hbn (ofB f) k = f k % 256 := by
  have hb : ∀ n, n < 2 ^ 104 → (BitVec.ofNat 104 n).toNat = n := fun n hn => by rw [BitVec.toNat_ofNat]; exact Nat.mod_eq_of_lt hn
  have h : ∀ j, f j % 256 < 256 := fun j => Nat.mod_lt _ (by omega)
  have h0 := h 0; have h1 := h 1; have h2 := h 2; have h3 := h 3; have h4 := h 4; have h5 := h 5; have h6 := h 6
  have h7 := h 7; have h8 := h 8; have h9 := h 9; have h10 := h 10; have h11 := h 11; have h12 := h 12
  clear h
  unfold hbn ofB
  simp only [List.range, List.range.loop, List.foldl_cons, List.foldl_nil, Nat.zero_mul, Nat.zero_add]
  have hcs : k = 0 ∨ k = 1 ∨ k = 2 ∨ k = 3 ∨ k = 4 ∨ k = 5 ∨ k = 6 ∨ k = 7 ∨ k = 8 ∨ k = 9 ∨ k = 10 ∨ k = 11 ∨ k = 12 := by omega
  rcases hcs with rfl | rfl | rfl | rfl | rfl | rfl | rfl | rfl | rfl | rfl | rfl | rfl | rfl
  all_goals
    generalize f 0 % 256 = a0 at *; generalize f 1 % 256 = a1 at *; generalize f 2 % 256 = a2 at *; generalize f 3 % 256 = a3 at *; generalize f 4 % 256 = a4 at *
    generalize f 5 % 256 = a5 at *; generalize f 6 % 256 = a6 at *; generalize f 7 % 256 = a7 at *; generalize f 8 % 256 = a8 at *; generalize f 9 % 256 = a9 at *
    generalize f 10 % 256 = a10 at *; generalize f 11 % 256 = a11 at *; generalize f 12 % 256 = a12 at *
    rw [hb _ (by omega)]
    clear hb
    simp only [Nat.shiftRight_eq_div_pow, Nat.reduceMul, Nat.reduceSub, Nat.reducePow]
    omega
theorem hdCells_setHb (h : Hd) (k : Nat) (hk : k < 13) (n : Int) (h0 : 0 ≤ n) (h1 : n < 256) : hdCells (setHb h k n) = (hdCells h).set k (.int .u8 n) := by
  apply List.ext_getElem?
  intro j
  rcases Nat.lt_or_ge j 13 with hj | hj
  · rw [List.getElem?_eq_getElem (by rw [hdCells_length]; exact hj), hdCells_get _ _ hj, List.getElem?_set, setHb, hbn_ofB _ _ hj]
    by_cases hjk : k = j
    · subst hjk
      rw [if_pos rfl, if_pos (by rw [hdCells_length]; exact hk)]
      simp only [beq_self_eq_true, cond_true]
      congr 2
      omega
    · rw [if_neg hjk, List.getElem?_eq_getElem (by rw [hdCells_length]; exact hj), hdCells_get _ _ hj]
      have : (j == k) = false := by simp; omega
      rw [this, cond_false, Nat.mod_eq_of_lt (hbn_lt h j)]
  · rw [List.getElem?_eq_none (by rw [hdCells_length]; exact hj), List.getElem?_eq_none (by simp [hdCells_length]; exact hj)]
theorem info_size {t : TypeId} {ti : TI} (h : TyOK P t ti) {i : TypeInfo} (hi : P.info? t = some i) : i.size = szT ti := by
  have := run_sizeOf_of (P := P) (w := default) h
  simpa [Go.sizeOf, typeInfo, hi] using this
theorem fill_one (pre el post : List Value) : ∀ (vs done : List Value) (o : Nat), el.length = done.length + vs.length → o = pre.length →
    (vs.zipIdx done.length).foldl (fun (cs : Array Value) (x : Value × Nat) => cs.setIfInBounds (o + x.2) x.1) (pre ++ (done ++ el.drop done.length) ++ post).toArray = (pre ++ (done ++ vs) ++ post).toArray
  | [], done, o, hl, _ => by simp at hl; simp [← hl]
  | v :: vs, done, o, hl, ho => by
    simp only [List.zipIdx_cons, List.foldl_cons]
    have hlt : done.length < el.length := by simp at hl; omega
    have h2 : ((pre ++ (done ++ el.drop done.length) ++ post).toArray.setIfInBounds (o + done.length) v) = (pre ++ ((done ++ [v]) ++ el.drop (done ++ [v]).length) ++ post).toArray := by
      subst ho
      have h1 : el.drop done.length = el[done.length] :: el.drop (done.length + 1) := List.drop_eq_getElem_cons hlt
      generalize el[done.length] = u at h1
      rw [h1, show (done ++ [v]).length = done.length + 1 by simp]
      generalize el.drop (done.length + 1) = t
      apply Array.ext'
      simp only [Array.toList_setIfInBounds, List.append_assoc, List.cons_append, List.nil_append]
      rw [List.set_append_right _ _ (by omega), show pre.length + done.length - pre.length = done.length by omega, List.set_append_right _ _ (by omega)]
      simp
    rw [h2]
    have := fill_one pre el post vs (done ++ [v]) o (by simp at hl ⊢; omega) ho
    rw [show (done ++ [v]).length = done.length + 1 by simp] at this ⊢
    rw [this]
    simp
theorem fill_seg (pre el post vs : List Value) (o : Nat) (hl : el.length = vs.length) (ho : o = pre.length) :
    vs.toArray.zipIdx.foldl (fun (cs : Array Value) (c, j) => cs.setIfInBounds (o + j) c) (pre ++ el ++ post).toArray = (pre ++ vs ++ post).toArray := by
  have := fill_one pre el post vs [] o (by simpa using hl) ho
  simp only [List.length_nil, List.nil_append, List.drop_zero] at this
  rw [← this, ← Array.foldl_toList]
  simp
theorem cells_one {u : Value} (h : u.oneCell' = true) : u.cells = #[u] := by cases u <;> first | rfl | simp [Value.oneCell'] at h
theorem parts_run (C : TysOK P cx.tys) (R : Rep nt w0 ok0 ok V tm me a w) {fs : List (Nat × TypeId)} {places : Array (Nat × Nat)} (hpl : ∀ (k : Nat) (f : Nat × TypeId), fs[k]? = some f → ∃ i, P.info? f.2 = some i ∧ places[k]? = some (f.1, i.size)) :
    ∀ {ps : List (Nat × Operand)} {z x : SV} {cs : List Value}, evalParts cx tm fs z ps = some x → relC ok w V z cs →
      ∃ ds, Instr.fill (places[·]?) cs.toArray (ps.map fun q => (q.1, a.eval q.2)) = some ds.toArray ∧ relC ok w V x ds
  | [], z, x, cs, h, hc => by
    simp only [evalParts, Option.some.injEq] at h; subst h
    exact ⟨cs, rfl, hc⟩
  | (k, y) :: ps, z, x, cs, h, hc => by
    simp only [evalParts, Option.bind_eq_some_iff] at h
    obtain ⟨v, hv, f, hf, ti, hT, old, hold, h⟩ := h
    cases hb : (fits ti v && size v == size old && off z (stepAt fs.length k) == f.1) with
    | false => simp [hb] at h
    | true =>
      simp only [hb, cond_true, Option.bind_eq_some_iff] at h
      obtain ⟨z', hz', h⟩ := h
      simp only [Bool.and_eq_true, beq_iff_eq] at hb
      obtain ⟨⟨hfit, hsize⟩, hoff⟩ := hb
      obtain ⟨hs1, hs2⟩ := fits_size hfit
      have rv := R.operand hv
      have : ∃ el', relC ok w V v el' ∧ (a.eval y).cells = el'.toArray := by
        have h1 : rel1 ok w V v (a.eval y) := by cases v <;> first | exact rv | simp [fits] at hfit
        obtain ⟨el', he, hm⟩ := h1
        refine ⟨el', he, ?_⟩
        rw [hm]
        by_cases hp : isPr v = true
        · simp [mk, hp, Value.cells]
        · have hs : size v = 1 := by cases v <;> first | rfl | simp [isPr] at hp
          match el', he.length.trans hs, he with
          | [u], _, he =>
            have hne : u.cells = #[u] := cells_one (he.one R.vals u (by simp))
            simp [mk, hp, hne]
      obtain ⟨el', he, hcells⟩ := this
      obtain ⟨pre, post, el, rfl, hp, hl, hn⟩ := hc.upd hz' hold hsize he
      obtain ⟨i, hi, hplace⟩ := hpl k f hf
      have hi' := info_size (C _ _ hT) hi
      obtain ⟨ds, hd, hr⟩ := parts_run C R hpl (ps := ps) h hn
      refine ⟨ds, ?_, hr⟩
      simp only [List.map_cons, Instr.fill, hplace, hcells]
      rw [if_neg (by simp [he.length, hs1, hi', hl, hp] ; omega)]
      rw [fill_seg pre el post el' f.1 hl (by omega)]
      exact hd
theorem bytes_run (R : Rep nt w0 ok0 ok V tm me a w) : ∀ {ps : List (Nat × Operand)} {h h' : Hd} {q : Prop}, evalBytes tm h ps = some (q, h') → q →
    Instr.fill (fun i => some (i * 1, 1)) (hdCells h).toArray (ps.map fun q => (q.1, a.eval q.2)) = some (hdCells h').toArray
  | [], h, h', q, he, _ => by simp only [evalBytes, Option.some.injEq, Prod.mk.injEq] at he; obtain ⟨_, rfl⟩ := he; rfl
  | (k, y) :: ps, h, h', q, he, hq => by
    simp only [evalBytes, Option.bind_eq_some_iff] at he
    obtain ⟨v, hv, he⟩ := he
    split at he
    · rename_i n
      cases hk : Nat.blt k 13 with
      | false => simp [hk] at he
      | true =>
        simp only [hk, cond_true, Option.bind_eq_some_iff, Option.some.injEq, Prod.mk.injEq] at he
        obtain ⟨⟨q1, h1⟩, hr, rfl, rfl⟩ := he
        have hk' : k < 13 := by simpa using hk
        have ih := bytes_run R hr hq.2
        have e := hdCells_setHb h k hk' n hq.1.1 hq.1.2
        rw [e] at ih
        have hy := rel_i (R.operand hv)
        simp only [List.map_cons, hy]
        unfold Instr.fill
        simp [Value.cells, hdCells_length, show ¬ (13 < k + 1) by omega]
        simpa using ih
    · cases he
theorem relAll_one {ys : Array Operand} {x : SV} (h : relAll ok w V [x] (ys.toList.map a.eval)) : ∃ v, ys.map a.eval = #[v] ∧ relV ok w V x v := by
  obtain ⟨xs⟩ := ys
  cases xs with
  | nil => exact h.elim
  | cons y r =>
    cases r with
    | nil => exact ⟨_, by simp, h.1⟩
    | cons z r => exact absurd h.2 (by simp [relAll])
theorem relAll_two {ys : Array Operand} {k k' : IntKind} {x y : Int} (h : relAll ok w V [.i k x, .i k' y] (ys.toList.map a.eval)) : ys.map a.eval = #[.int k x, .int k' y] := by
  obtain ⟨xs⟩ := ys
  match xs, h with
  | [p, q], ⟨h1, h2, _⟩ => simp [rel_i h1, rel_i h2]
  | [], h => exact h.elim
  | [_], ⟨_, h⟩ => exact h.elim
  | _ :: _ :: _ :: _, ⟨_, _, h⟩ => exact absurd h (by simp [relAll])
theorem run_bytes_text (w : World) (src dst e : TypeId) (A : Option Addr) (c : Nat) (l : List Int) (hs : P.underlying src = some (.slice e)) (he : P.underlying e = some (.int .u8)) (hd : P.underlying dst = some .string)
    (hr : RowAt ok w A .u8 l) : (convert src dst (.slice A l.length c)).run P w = .ok (.string (strOf l)) w := by
  rw [run_convert_bytes_string w src dst e A l.length c hs he hd]
  cases A with
  | none =>
    cases l with
    | nil => rfl
    | cons x l => obtain ⟨a, h, _⟩ := hr 0 (by simp); cases h
  | some A =>
    refine run_bytesToString w A l.length c l ?_
    have := run_loadCells_list (P := P) w A (l.map (Value.int .u8)) (fun j v hv => by
      obtain ⟨hj, rfl⟩ := List.getElem?_eq_some_iff.1 hv
      simp only [List.length_map] at hj
      obtain ⟨B, hB, _, h⟩ := hr j hj
      cases hB
      have h0 := h 0 (by simp [E.cells, E.tree, flat])
      simp only [Addr.add_zero', E.sz, Nat.mul_one] at h0
      rw [h0]
      simp [E.cells, E.tree, flat])
    simpa using this
/-- THE EVALUATOR's WORD IS THE OPERATION's VALUE. -/
theorem evalP_run (C : TysOK P cx.tys) (R : Rep nt w0 ok0 ok V tm me a w) {O : Oper} {q : Prop} {x : SV} (he : evalP cx tm me O.op = some (q, x)) (hq : q) :
    Gives P ok V a O w x := by
  unfold Gives execOp
  generalize O.op = o at he
  cases o with
  | move y =>
    simp only [evalP, Option.bind_eq_some_iff, Option.some.injEq, Prod.mk.injEq] at he
    obtain ⟨v, hv, _, rfl⟩ := he
    exact ⟨_, rfl, R.operand hv⟩
  | assign y =>
    simp only [evalP, Option.bind_eq_some_iff, Option.some.injEq, Prod.mk.injEq] at he
    obtain ⟨v, hv, _, rfl⟩ := he
    exact ⟨_, rfl, R.operand hv⟩
  | pick c y z =>
    simp only [evalP, Option.bind_eq_some_iff] at he
    obtain ⟨cv, hc, yv, hy, zv, hz, he⟩ := he
    dsimp only
    have rc := R.operand hc
    have ry := R.operand hy
    have rz := R.operand hz
    split at he <;> simp only [Option.some.injEq, Prod.mk.injEq, reduceCtorEq] at he <;> obtain ⟨rfl, rfl⟩ := he
    · rename_i c' m n
      rw [rel_b rc, rel_b ry, rel_b rz]
      cases c' <;> exact ⟨_, by simp [asBool], rel_bool _⟩
    · rename_i c' c1 m n
      rw [rel_b rc, rel_b rz]
      cases c' with
      | false => exact ⟨_, by simp [asBool], rel_bool _⟩
      | true => rw [rel_b (relV_of_rel1 (ry.1 (hq rfl)))]; exact ⟨_, by simp [asBool], rel_bool _⟩
    · rename_i c' m c2 n
      rw [rel_b rc, rel_b ry]
      cases c' with
      | true => exact ⟨_, by simp [asBool], rel_bool _⟩
      | false => rw [rel_b (relV_of_rel1 (rz.1 (hq rfl)))]; exact ⟨_, by simp [asBool], rel_bool _⟩
  | load t y =>
    simp only [evalP, Option.bind_eq_some_iff] at he
    obtain ⟨av, ha, ti, hT, he⟩ := he
    have ra := R.operand ha
    split at he
    · rename_i j p o
      have hv := rel_p ra
      split at he
      · rename_i bt y hE
        simp only [Option.bind_eq_some_iff] at he
        obtain ⟨z, hs, he⟩ := he
        cases hb : (fits ti z && off y p == o) with
        | false => simp [hb] at he
        | true =>
          simp only [hb, cond_true, Option.some.injEq, Prod.mk.injEq] at he
          obtain ⟨_, rfl⟩ := he
          simp only [Bool.and_eq_true, beq_iff_eq] at hb
          obtain ⟨v, h1, h2⟩ := load_box C R hT hE hs hb.1 hb.2
          exact ⟨v, by simp [hv, Instr.loadAt, Instr.sureAddr, h1], h2⟩
      · cases he
    · rename_i j p o i
      have hv := rel_pb ra
      split at he
      · rename_i bt y hE
        split at he
        · rename_i h hs
          cases hb : (off y p == o) with
          | false => simp [hb] at he
          | true =>
            simp only [hb, cond_true, Option.some.injEq, Prod.mk.injEq] at he
            obtain ⟨rfl, rfl⟩ := he
            obtain ⟨cs, hc, hh⟩ := ent_box R hE
            obtain ⟨pre, post, el, rfl, hp, rfl⟩ := hc.sub hs
            have hr := (reads_box hh).part
            rw [add_none, Nat.zero_add, hp, beq_iff_eq.1 hb] at hr
            have hcell := hd_byte hr hq.1 hq.2
            rw [add_none] at hcell
            exact ⟨_, by simp [hv, Instr.loadAt, Instr.sureAddr, run_loadVar_u8 (C _ _ hT) hcell], rel_int _ _⟩
        · cases he
      · cases he
    · rename_i y
      obtain ⟨A, el, hv, _, hc, hr⟩ := rel_rp ra
      cases hb : fits ti y with
      | false => simp [hb] at he
      | true =>
        simp only [hb, cond_true, Option.some.injEq, Prod.mk.injEq] at he
        obtain ⟨_, rfl⟩ := he
        exact ⟨_, by simp [hv, Instr.loadAt, Instr.sureAddr, run_loadVar_of (C _ _ hT) hb hc hr], mk_rel hc⟩
    · obtain ⟨A, hv, _, hr⟩ := rel_rb ra
      split at he
      · simp only [Option.some.injEq, Prod.mk.injEq] at he
        obtain ⟨rfl, rfl⟩ := he
        exact ⟨_, by simp [hv, Instr.loadAt, Instr.sureAddr, run_loadVar_u8 (C _ _ hT) (hd_byte hr hq.1 hq.2)], rel_int _ _⟩
      · cases he
    · cases he
  | binOp op t y z yt =>
    simp only [evalP, Option.bind_eq_some_iff] at he
    obtain ⟨yv, hy, zv, hz, he⟩ := he
    obtain ⟨v, h1, h2⟩ := binV_run C he hq (R.operand hy) (R.operand hz) y z
    exact ⟨v, by simp only [Sem.run_bind] at h1 ⊢; rw [h1]; simp, h2⟩
  | unOp op t y =>
    simp only [evalP, Option.bind_eq_some_iff, Option.some.injEq, Prod.mk.injEq] at he
    obtain ⟨yv, hy, r, hr, _, rfl⟩ := he
    obtain ⟨v, h1, h2⟩ := unV_run (P := P) hr (R.operand hy)
    exact ⟨v, by simp [h1, -bind_pure_comp], h2⟩
  | fieldAddr t y k =>
    simp only [evalP, Option.bind_eq_some_iff] at he
    obtain ⟨fs, hfs, av, ha, f, hf, he⟩ := he
    unfold fieldsOf at hfs
    split at hfs
    · rename_i fs' sz zr eq hT
      injection hfs with hfs; subst hfs
      obtain ⟨gs, g, hg, hk, ho, _, i, hi, hi0⟩ := run_field (C _ _ hT) hf
      have ra := R.operand ha
      have hplace : ∀ A : Addr, (fieldPlace A g).run P w = .ok (A.add f.1) w := fun A => by simp [fieldPlace, Go.sizeOf, typeInfo, hi, hi0, ho]
      split at he
      · simp only [Option.some.injEq, Prod.mk.injEq] at he
        obtain ⟨_, rfl⟩ := he
        have hv := rel_p ra
        refine ⟨_, by simp only [hv, Instr.fieldAt, Instr.sureAddr, Sem.run_bind, run_underlying hg, Result.andThen_ok, hk, Sem.run_pure, hplace]; rfl, ?_⟩
        rw [add_none]
        exact ⟨_, rfl, rfl⟩
      · simp only [Option.bind_eq_some_iff] at he
        obtain ⟨z, hs, he⟩ := he
        rename_i y
        cases hb : (off y (stepAt fs'.length k) == f.1) with
        | false => simp [hb] at he
        | true =>
          simp only [hb, cond_true, Option.some.injEq, Prod.mk.injEq] at he
          obtain ⟨_, rfl⟩ := he
          obtain ⟨A, el, hv, hok, hc, hr⟩ := rel_rp ra
          obtain ⟨pre, post, el', rfl, hp, hc'⟩ := hc.sub hs
          refine ⟨_, by simp only [hv, Instr.fieldAt, Instr.sureAddr, Sem.run_bind, run_underlying hg, Result.andThen_ok, hk, Sem.run_pure, hplace]; rfl, ?_⟩
          refine ⟨_, ⟨_, el', rfl, by rw [← beq_iff_eq.1 hb, ← hp]; exact hok.part (by simp), hc', ?_⟩, rfl⟩
          rw [← beq_iff_eq.1 hb, ← hp]
          exact hr.part
      · cases he
    · cases hfs
  | field t y k =>
    simp only [evalP, Option.bind_eq_some_iff] at he
    obtain ⟨fs, hfs, av, ha, f, hf, ti, hTi, z, hs, he⟩ := he
    unfold fieldsOf at hfs
    split at hfs
    · rename_i fs' sz zr eq hT
      injection hfs with hfs; subst hfs
      cases hb : (isPr av && fits ti z && off av (stepAt fs'.length k) == f.1) with
      | false => simp [hb] at he
      | true =>
        simp only [hb, cond_true, Option.some.injEq, Prod.mk.injEq] at he
        obtain ⟨_, rfl⟩ := he
        simp only [Bool.and_eq_true, beq_iff_eq] at hb
        obtain ⟨⟨hp, hfit⟩, hof⟩ := hb
        obtain ⟨gs, g, hg, hk, ho, htype, _⟩ := run_field (C _ _ hT) hf
        have ra := R.operand ha
        have : ∃ cs, relC ok w V av cs ∧ a.eval y = .agg cs.toArray := by
          cases av <;> simp [isPr] at hp
          · exact ⟨_, rfl, rel_hd ra⟩
          · exact rel_pr ra
        obtain ⟨cs, hc, hv⟩ := this
        obtain ⟨pre, post, el, rfl, hpre, hel⟩ := hc.sub hs
        refine ⟨mk z el, ?_, mk_rel hel⟩
        obtain ⟨h1, h2⟩ := fits_size hfit
        have hag := run_isAgg_of (w := w) (C _ _ hTi)
        have hsz := run_sizeOf_of (w := w) (C _ _ hTi)
        rw [← h2] at hag
        rw [← h1, ← hel.length] at hsz
        rw [← htype] at hag hsz
        simp only [hv, Instr.field, Sem.run_bind, run_underlying hg, Result.andThen_ok, hk, asAgg, Sem.run_pure, Go.part, hag]
        rw [ho, ← hof, ← hpre]
        by_cases hz : isPr z = true
        · rw [if_pos hz]
          simp [hsz, mk, hz]
        · rw [if_neg hz]
          have hs1 : size z = 1 := by cases z <;> first | rfl | simp [isPr] at hz
          match el, hel.length.trans hs1 with
          | [u], _ => simp [mk, hz]
    · cases hfs
  | indexAddr t y ix =>
    simp only [evalP, Option.bind_eq_some_iff] at he
    obtain ⟨av, ha, iv, hi, ti, hT, he⟩ := he
    have ra := R.operandB ha
    have ri := R.operand hi
    split at he
    · rename_i e l kk i _ e'
      cases hb : (e == e') with
      | false => simp [hb] at he
      | true =>
        simp only [hb, cond_true, Option.some.injEq, Prod.mk.injEq] at he
        obtain ⟨rfl, rfl⟩ := he
        obtain rfl : e = e' := by simpa using hb
        obtain ⟨A, c, hv, hl, hr⟩ := rel_sl ra
        obtain ⟨he, ⟨i0, _, hi0, hsz, _⟩, _⟩ := C _ _ hT
        obtain ⟨B, rfl, hok, hrd⟩ := hr i.toNat (by omega)
        refine ⟨_, by simp [hv, rel_i ri, Instr.indexAt, asIntOf, run_underlying he, hq.1, hq.2, Go.sizeOf, typeInfo, hi0, hsz]; rfl, ?_⟩
        refine ⟨_, ⟨_, _, rfl, by rw [E.cells_length]; exact hok, tree_flat _ _, ?_⟩, rfl⟩
        have : atL e l i = l[i.toNat]'(by omega) := by simp [atL, List.getD, show i.toNat < l.length by omega]
        rw [this]
        exact hrd
    · simp only [Option.some.injEq, Prod.mk.injEq] at he
      obtain ⟨rfl, rfl⟩ := he
      have hv := rel_p ra
      obtain ⟨et, he, _, ⟨i0, hi0, hsz⟩, _⟩ := C _ _ hT
      refine ⟨_, by simp [hv, rel_i ri, Instr.indexAt, Instr.sureAddr, asIntOf, run_underlying he, hq.1, hq.2, Go.sizeOf, typeInfo, hi0, hsz]; rfl, ?_⟩
      rw [add_none]
      exact ⟨_, rfl, rfl⟩
    · simp only [Option.some.injEq, Prod.mk.injEq] at he
      obtain ⟨rfl, rfl⟩ := he
      obtain ⟨A, el, hv, hok, rfl, hrd⟩ := rel_rp ra
      obtain ⟨et, he, _, ⟨i0, hi0, hsz⟩, _⟩ := C _ _ hT
      refine ⟨_, by simp [hv, rel_i ri, Instr.indexAt, Instr.sureAddr, asIntOf, run_underlying he, hq.1, hq.2, Go.sizeOf, typeInfo, hi0, hsz]; rfl, ?_⟩
      exact ⟨_, ⟨_, rfl, by rw [hdCells_length] at hok; exact hok, hrd⟩, rfl⟩
    · cases he
  | index t y ix =>
    simp only [evalP, Option.bind_eq_some_iff] at he
    obtain ⟨av, ha, iv, hi, ti, hT, he⟩ := he
    have ra := R.operand ha
    have ri := R.operand hi
    split at he
    · rename_i h kk i
      simp only [Option.some.injEq, Prod.mk.injEq] at he
      obtain ⟨rfl, rfl⟩ := he
      obtain ⟨et, he, hu, ⟨i0, hi0, hsz⟩, _⟩ := C _ _ hT
      refine ⟨.int .u8 (hb h i), ?_, rel_int _ _⟩
      have hg : (hdCells h)[i.toNat]? = some (.int .u8 (hb h i)) := by
        rw [List.getElem?_eq_getElem (by rw [hdCells_length]; omega), hdCells_get _ _ (by omega)]; rfl
      simp [rel_hd ra, rel_i ri, Instr.index, asIntOf, run_underlying he, hq.1, hq.2, Go.sizeOf, typeInfo, hi0, hsz, Go.part, isAgg, run_underlying hu, hg]
    · rename_i x kk i
      simp only [Option.some.injEq, Prod.mk.injEq] at he
      obtain ⟨rfl, rfl⟩ := he
      refine ⟨.int .u8 (byteAt x i), ?_, rel_int _ _⟩
      have hlt : i.toNat < x.size := by omega
      have hb : byteAt x i = (x[i.toNat].toNat : Int) := by
        unfold byteAt
        rw [ByteArray.getElem?_lt' x _ hlt]; rfl
      simp [rel_s ra, rel_i ri, run_index_string w t x kk i (C _ _ hT).1, hq.1, hq.2, hb]
    · cases he
  | slice t y lo hi mx =>
    cases mx with
    | some _ => simp [evalP] at he
    | none =>
    simp only [evalP, Option.bind_eq_some_iff] at he
    obtain ⟨av, ha, ti, hT, l, hl, h, hh, he⟩ := he
    have ra := R.operandB ha
    have hbd : ∀ (is : Bool) (len cap : Nat), (len : Int) = lenS av → 0 ≤ l → l ≤ h → h ≤ len → len ≤ cap → (Instr.sliceBounds is len cap (lo.map a.eval) (hi.map a.eval) none).run P w = .ok (l.toNat, h.toNat, cap) w := by
      intro is len cap hlen h1 h2 h3 h4
      rcases bound_rel R hl with ⟨rfl, rfl⟩ | ⟨x1, k1, rfl, e1⟩ <;> rcases bound_rel R hh with ⟨rfl, rfl⟩ | ⟨x2, k2, rfl, e2⟩
      · simp [Instr.sliceBounds, ← hlen]
      · simp [Instr.sliceBounds, e2, run_sliceBound w k2 h cap _ (by omega) (by omega)]
      · simp [Instr.sliceBounds, e1, ← hlen, run_sliceBound w k1 l len _ (by omega) (by omega)]
      · have e3 : (h.toNat : Int) = h := Int.toNat_of_nonneg (by omega)
        simp [Instr.sliceBounds, e1, e2, run_sliceBound w k2 h cap _ (by omega) (by omega), run_sliceBound w k1 l h.toNat _ (by omega) (by omega)]
    split at he
    · rename_i e r et e'
      cases hb : (e == e') with
      | false => simp [hb] at he
      | true =>
        simp only [hb, cond_true, Option.some.injEq, Prod.mk.injEq] at he
        obtain ⟨rfl, rfl⟩ := he
        obtain rfl : e = e' := by simpa using hb
        obtain ⟨A, c, hv, hlc, hr⟩ := rel_sl ra
        obtain ⟨hu, ⟨i0, _, hi0, hsz, _⟩, _⟩ := C _ _ hT
        have hbd' := hbd true r.length c rfl hq.1 hq.2.1 hq.2.2 hlc
        refine ⟨_, by simp [hv, Instr.sliceAt, Instr.slice, run_underlying hu, hbd', Go.sizeOf, typeInfo, hi0, hsz]; rfl, ?_⟩
        have hlen : ((r.take h.toNat).drop l.toNat).length = h.toNat - l.toNat := by simp; omega
        refine ⟨_, ⟨_, c - l.toNat, by rw [hlen], by omega, ?_⟩, rfl⟩
        split
        · rename_i hcl
          intro k hk
          omega
        · exact hr.cut _ _
    · rename_i x
      simp only [Option.some.injEq, Prod.mk.injEq] at he
      obtain ⟨rfl, rfl⟩ := he
      have hbd' := hbd false x.size x.size rfl hq.1 hq.2.1 hq.2.2 (Nat.le_refl _)
      exact ⟨_, by simp [rel_s ra, Instr.sliceAt, Instr.slice, run_underlying (C _ _ hT).1, hbd']; rfl, ⟨_, rfl, rfl⟩⟩
    · cases he
  | build t ps =>
    simp only [evalP, Option.bind_eq_some_iff] at he
    obtain ⟨ti, hT, he⟩ := he
    split at he
    · rename_i fs sz zr eq
      simp only [Option.bind_eq_some_iff] at he
      obtain ⟨x', hx, he⟩ := he
      cases hp : isPr x' with
      | false => simp [hp] at he
      | true =>
        simp only [hp, cond_true, Option.some.injEq, Prod.mk.injEq] at he
        obtain ⟨_, rfl⟩ := he
        obtain ⟨gs, hg, hfs, hi, ⟨i0, hi0, hsz, hz⟩, hsize, hpr, hsk, _⟩ := C _ _ hT
        obtain ⟨places, hmap, hpl⟩ : ∃ places, gs.toList.mapM (fun f => (P.info? f.type).map fun i => (f.offset, i.size)) = some places ∧ ∀ (k : Nat) (f : Nat × TypeId), fs[k]? = some f → ∃ i, P.info? f.2 = some i ∧ places.toArray[k]? = some (f.1, i.size) := by
          rw [← hfs]
          clear hfs hg
          generalize gs.toList = l at hi
          induction l with
          | nil => exact ⟨[], rfl, fun k f h => by simp at h⟩
          | cons g l ih =>
            obtain ⟨places, h1, h2⟩ := ih (fun f hf => hi f (by simp [hf]))
            obtain ⟨i, hi, _⟩ := hi g (by simp)
            refine ⟨(g.offset, i.size) :: places, by simp [List.mapM_cons, hi, h1], fun k f hk => ?_⟩
            cases k with
            | zero => simp at hk; subst hk; exact ⟨i, hi, by simp⟩
            | succ k => simpa using h2 k f (by simpa using hk)
        obtain ⟨ds, hd, hr⟩ := parts_run C R hpl hx (relC_of_flat hsk)
        have hb : P.built t ((ps.map fun (i, x) => (i, a.eval x)).toList) = some ds.toArray := by
          simp only [Program.built, hi0, hg, hz, hmap]
          simpa [Value.cells] using hd
        exact ⟨_, by simp only [Sem.run_bind, run_build w t _ _ hb, Result.andThen_ok]; rfl, relV_of_rel1 ⟨ds, hr, by simp [mk, hp]⟩⟩
    · simp only [Option.bind_eq_some_iff, Option.some.injEq, Prod.mk.injEq] at he
      obtain ⟨⟨q', h'⟩, hx, rfl, rfl⟩ := he
      obtain ⟨et, he, hu, ⟨i0, hi0, hsz⟩, ⟨i1, hi1, hs1, hz1⟩, _⟩ := C _ _ hT
      have hd := bytes_run R hx hq
      have hb : P.built t ((ps.map fun (i, x) => (i, a.eval x)).toList) = some (hdCells h').toArray := by
        simp only [Program.built, hi1, he, hz1, hi0, hsz]
        simpa [Value.cells] using hd
      exact ⟨_, by simp only [Sem.run_bind, run_build w t _ _ hb, Result.andThen_ok]; rfl, ⟨_, rfl, rfl⟩⟩
    · cases he
  | extract y k =>
    simp only [evalP, Option.bind_eq_some_iff] at he
    obtain ⟨av, ha, he⟩ := he
    split at he
    · simp only [Option.bind_eq_some_iff, Option.some.injEq, Prod.mk.injEq] at he
      obtain ⟨z, hz, _, rfl⟩ := he
      obtain ⟨vs, hv, hl⟩ := R.operand ha
      obtain ⟨v, h1, h2⟩ := tup_rel hz hl
      exact ⟨v, by simp [hv, Instr.extract, h1], h2⟩
    · cases he
  | call c =>
    simp only [evalP] at he
    split at he
    · rename_i hcal
      simp only [Option.bind_eq_some_iff] at he
      obtain ⟨vs, hvs, he⟩ := he
      have rs := relAll_barely (R.operands hvs)
      split at he
      · rename_i vs' tys' e l t hvs' htys
        split at he
        · rename_i et e' hT
          simp only [Option.some.injEq, Prod.mk.injEq] at he
          obtain ⟨_, rfl⟩ := he
          obtain ⟨hu, _⟩ := C _ _ hT
          rw [hvs'] at rs
          obtain ⟨v, hv, ha⟩ := relAll_one rs
          obtain ⟨A, cp, rfl, _, _⟩ := rel_sl ha
          have ht : c.argTypes[0]? = some t := by rw [← Array.getElem?_toList, htys]; rfl
          exact ⟨_, by simp [resolve, hcal, invoke, builtin, hv, Builtin.len_, ht, run_underlying hu, goInt], rel_int _ _⟩
        · cases he
      · rename_i vs' tys' x t hvs' htys
        split at he
        · rename_i hT
          simp only [Option.some.injEq, Prod.mk.injEq] at he
          obtain ⟨_, rfl⟩ := he
          have hu := (C _ _ hT).1
          rw [hvs'] at rs
          obtain ⟨v, hv, ha⟩ := relAll_one rs
          obtain rfl := rel_s ha
          have ht : c.argTypes[0]? = some t := by rw [← Array.getElem?_toList, htys]; rfl
          exact ⟨_, by simp [resolve, hcal, invoke, builtin, hv, Builtin.len_, ht, run_underlying hu, goInt], rel_int _ _⟩
        · cases he
      · cases he
    · rename_i hcal
      simp only [Option.bind_eq_some_iff] at he
      obtain ⟨vs, hvs, he⟩ := he
      have rs := R.operands hvs
      split at he
      · rename_i k x k' y
        simp only [Option.some.injEq, Prod.mk.injEq] at he
        obtain ⟨_, rfl⟩ := he
        have hv := relAll_two rs
        refine ⟨_, by simp [resolve, hcal, invoke, builtin, hv, run_min_int2]; rfl, ?_⟩
        have : (bif decide (y < x) then y else x) = if y < x then y else x := by by_cases h : y < x <;> simp [h]
        rw [this]
        exact rel_int _ _
      · cases he
    · rename_i hcal
      simp only [Option.bind_eq_some_iff] at he
      obtain ⟨vs, hvs, he⟩ := he
      have rs := R.operands hvs
      split at he
      · rename_i k x k' y
        simp only [Option.some.injEq, Prod.mk.injEq] at he
        obtain ⟨_, rfl⟩ := he
        have hv := relAll_two rs
        refine ⟨_, by simp [resolve, hcal, invoke, builtin, hv, run_max_int2]; rfl, ?_⟩
        have : (bif decide (x < y) then y else x) = if x < y then y else x := by by_cases h : x < y <;> simp [h]
        rw [this]
        exact rel_int _ _
      · cases he
    · cases he
  | convert s t y =>
    simp only [evalP, Option.bind_eq_some_iff] at he
    obtain ⟨av, ha, si, hS, ti, hT, he⟩ := he
    have ra := R.operandB ha
    split at he
    · rename_i k' n k'' k
      simp only [Option.some.injEq, Prod.mk.injEq] at he
      obtain ⟨_, rfl⟩ := he
      refine ⟨_, ?_, rel_int _ _⟩
      simp [rel_i ra, convert, run_underlying (C _ _ hS).1, run_underlying (C _ _ hT).1, Conv.intToInt]
    · rename_i l et
      simp only [Option.some.injEq, Prod.mk.injEq] at he
      obtain ⟨_, rfl⟩ := he
      obtain ⟨A, c, hv, hlc, hr⟩ := rel_sl ra
      obtain ⟨hu, _, hu8, _⟩ := C _ _ hS
      have hrun := run_bytes_text w s t et A c l hu (hu8 rfl) (C _ _ hT).1 hr
      exact ⟨_, by simp only [Sem.run_bind, hv, hrun]; rfl, ⟨_, rfl, rfl⟩⟩
    · cases he
  | _ => simp [evalP] at he
end
end Mx
