/- The seat's types; that its functions are plain. Own work. -/
import Derived.Test.YtlnofclfpcmneaaProg
import Derived.Test.YtlnofclfpcmneaaXj
import Derived.Test.YtlnofclfpcmneaaXl
namespace Mx
open Go Go.Proofs
abbrev cubeZ : SV := .pr (.hd 0) (.hd 0)
abbrev ruleZ : SV := .pr (.i .i64 0) (.pr cubeZ (.i .i64 0))
def tys : List (TypeId × TI) := [(36, .st [(0, 34), (13, 34)] 26 cubeZ true),
  (34, .hd),
  (4, .bo),
  (3, .int .i64),
  (25, .int .i64),
  (74, .sl 36 .cube),
  (5, .int .u8),
  (58, .st [(0, 3), (1, 36), (27, 3)] 28 ruleZ false),
  (49, .sl 58 .rule),
  (22, .sl 5 .u8),
  (9, .str),
  (23, .int .u64),
  (77, .sl 3 .int)]
theorem tysOK_of {P : Program} {l : List (TypeId × TI)} (h : ∀ p ∈ l, TyOK P p.1 p.2) : TysOK P l := by
  induction l with
  | nil => intro t ti h; cases h
  | cons p l ih =>
    obtain ⟨k, v⟩ := p
    intro t ti ht
    simp only [tyOf] at ht
    cases hk : (k == t) with
    | true =>
      obtain rfl : k = t := by simpa using hk
      simp only [hk, cond_true, Option.some.injEq] at ht
      subst ht
      exact h (k, v) (by simp)
    | false =>
      simp only [hk, cond_false] at ht
      exact ih (fun p hp => h p (by simp [hp])) t ti ht
theorem info_of {α : Type} {o : Option TypeInfo} {f : TypeInfo → α} {y : α} (h : o.map f = some y) : ∃ i, o = some i ∧ f i = y := by
  cases o with
  | none => cases h
  | some i => exact ⟨i, rfl, by simpa using h⟩
theorem int_ok {P : Program} {t : TypeId} {k : IntKind} (h1 : P.underlying t = some (.int k)) (h2 : (P.info? t).map (fun i => (i.size, i.zero)) = some (1, some (.int k 0))) : TyOK P t (.int k) := by
  obtain ⟨i, hi, h⟩ := info_of h2
  injection h with ha hb
  exact ⟨h1, ⟨i, hi, ha⟩, ⟨i, hi, hb⟩⟩
theorem sl_ok {P : Program} {t et : TypeId} {e : E} {z : Value} (h1 : P.underlying t = some (.slice et)) (h2 : (P.info? et).map (fun i => (i.size, i.zero, Nat.ble i.bytes 64)) = some (e.sz, some z, true)) (hz : z.cells.size = e.sz)
    (h3 : e = .u8 → P.underlying et = some (.int .u8)) (h4 : (P.info? t).map (·.size) = some 1) : TyOK P t (.sl et e) := by
  obtain ⟨i, hi, h⟩ := info_of h2
  injection h with ha hb
  injection hb with hb hc
  exact ⟨h1, ⟨i, z, hi, ha, hb, hz, Nat.le_of_ble_eq_true hc⟩, h3, info_of h4⟩
theorem hd_ok {P : Program} {t e : TypeId} (h1 : P.underlying t = some (.array 13 e)) (h2 : P.underlying e = some (.int .u8)) (h3 : (P.info? e).map (·.size) = some 1) (h4 : (P.info? t).map (fun i => (i.size, i.zero)) = some (13, some (.agg (hdCells 0).toArray)))
    (hg : P.eqGuardType P.depth t = false) : TyOK P t .hd := by
  obtain ⟨i, hi, h⟩ := info_of h3
  obtain ⟨j, hj, h'⟩ := info_of h4
  injection h' with ha hb
  exact ⟨e, h1, h2, ⟨i, hi, h⟩, ⟨j, hj, ha, hb⟩, eqAt_hd h1 h2 hi (by simp [Program.cellsOf, hi, h]) hg⟩
theorem fields_ok {P : Program} {t : TypeId} {fs : List (Nat × TypeId)} {sz : Nat} {z : SV} {eq : Bool} (h1 : P.underlying t = some (.struct (P.fieldsOf t))) (h2 : (P.fieldsOf t).toList.map (fun f => (f.offset, f.type)) = fs)
    (h3 : (P.fieldsOf t).toList.all (fun f => match P.info? f.type with | some i => i.size != 0 | none => false) = true) (h4 : (P.info? t).map (fun i => (i.size, i.zero)) = some (sz, some (.agg (flat z).toArray)))
    (h5 : size z = sz) (h6 : isPr z = true) (h7 : skel z z = true) (h8 : eq = true → Mx.EqAt P t z) : TyOK P t (.st fs sz z eq) := by
  obtain ⟨j, hj, h'⟩ := info_of h4
  injection h' with ha hb
  refine ⟨_, h1, h2, fun f hf => ?_, ⟨j, hj, ha, hb⟩, h5, h6, h7, h8⟩
  have := List.all_eq_true.1 h3 f hf
  cases hi : P.info? f.type with
  | none => rw [hi] at this; cases this
  | some i => rw [hi] at this; exact ⟨i, rfl, by simpa using this⟩
theorem tysOK : TysOK Try.prog tys := by
  refine tysOK_of fun p hp => ?_
  simp only [tys, List.mem_cons, List.not_mem_nil, or_false] at hp
  rcases hp with rfl | rfl | rfl | rfl | rfl | rfl | rfl | rfl | rfl | rfl | rfl | rfl | rfl
  · have h5 := info_of (show (Try.prog.info? 5).map (·.size) = some 1 by kernel_rfl)
    obtain ⟨i, hi, h⟩ := h5
    have h34 := info_of (show (Try.prog.info? 34).map (·.size) = some 13 by kernel_rfl)
    obtain ⟨j, hj, h'⟩ := h34
    refine fields_ok (by kernel_rfl) (by kernel_rfl) (by kernel_rfl) (by kernel_rfl) (by kernel_rfl) (by kernel_rfl) (by kernel_rfl) fun _ => ?_
    exact eqAt_cube (u := 34) (e := 5) (by kernel_rfl) (by kernel_rfl) (by kernel_rfl) (by kernel_rfl) (by kernel_rfl) hi (by simp [Program.cellsOf, hi, h]) hj h' (by kernel_rfl)
  · exact hd_ok (e := 5) (by kernel_rfl) (by kernel_rfl) (by kernel_rfl) (by kernel_rfl) (by kernel_rfl)
  · have := info_of (show (Try.prog.info? 4).map (fun i => (i.size, i.zero)) = some (1, some (.bool false)) by kernel_rfl)
    obtain ⟨i, hi, h⟩ := this
    injection h with ha hb
    exact ⟨by kernel_rfl, ⟨i, hi, ha⟩, ⟨i, hi, hb⟩⟩
  · exact int_ok (by kernel_rfl) (by kernel_rfl)
  · exact int_ok (by kernel_rfl) (by kernel_rfl)
  · exact sl_ok (z := .agg (flat cubeZ).toArray) (by kernel_rfl) (by kernel_rfl) (by kernel_rfl) (fun h => by cases h) (by kernel_rfl)
  · exact int_ok (by kernel_rfl) (by kernel_rfl)
  · exact fields_ok (by kernel_rfl) (by kernel_rfl) (by kernel_rfl) (by kernel_rfl) (by kernel_rfl) (by kernel_rfl) (by kernel_rfl) (fun h => by cases h)
  · exact sl_ok (z := .agg (flat ruleZ).toArray) (by kernel_rfl) (by kernel_rfl) (by kernel_rfl) (fun h => by cases h) (by kernel_rfl)
  · exact sl_ok (z := .int .u8 0) (by kernel_rfl) (by kernel_rfl) (by kernel_rfl) (fun _ => by kernel_rfl) (by kernel_rfl)
  · exact ⟨by kernel_rfl, info_of (by kernel_rfl)⟩
  · exact int_ok (by kernel_rfl) (by kernel_rfl)
  · exact sl_ok (z := .int .i64 0) (by kernel_rfl) (by kernel_rfl) (by kernel_rfl) (fun h => by cases h) (by kernel_rfl)
theorem mixed : Try.prog.follows .mixedOrders = true := by kernel_rfl
def DX (F : Fx) (_ : Nat) (ops : Array Oper) (K : Post) (st : St) : Prop := drawT ops = true ∧ drawX F.cx F.nt ops K st
/-- what the evaluator is asked of a function -/
def Walk (fn : Func) (c : Code) (fns : List (FuncId × Spec)) (u : Lk) (args : List SV) (r : SV) : Prop :=
  ∀ L, LoopRule ⟨⟨tys, fns, u⟩, fn.ntmps, none⟩ (DX ⟨⟨tys, fns, u⟩, fn.ntmps, none⟩) L → wpX ⟨⟨tys, fns, u⟩, fn.ntmps, none⟩ (DX ⟨⟨tys, fns, u⟩, fn.ntmps, none⟩) L c (Fin ⟨tys, fns, u⟩ fn.results.toList r) ⟨args0 0 args, []⟩
theorem fn_ok {f : FuncId} {fn : Func} {c : Code} {fns : List (FuncId × Spec)} {u : Lk} {args : List SV} {r : SV} (hf : Try.prog.funcs[f]? = some fn) (hb : fn.body = some c) (G : FnsOK Try.prog fns) (ha : Nat.ble args.length fn.ntmps = true) (hr : closed r = true)
    (h : Walk fn c fns u args r) : FnOK Try.prog f args r :=
  fnOK_of (F := ⟨⟨tys, fns, u⟩, fn.ntmps, none⟩) (D := DX ⟨⟨tys, fns, u⟩, fn.ntmps, none⟩) tysOK G hf hb rfl (Nat.le_of_ble_eq_true ha) hr (fun _ _ _ _ _ _ hd => drawX_means tysOK G mixed hd.1 hd.2) h
/-- the same, the static check of great regions made beforehand -/
abbrev Tab := List (Nat × {ops : Array Oper // drawT ops = true})
def tabAt : Tab → Nat → Option {ops : Array Oper // drawT ops = true}
  | [], _ => none
  | (i, x) :: r, id => bif Nat.beq i id then some x else tabAt r id
def DXT (F : Fx) (tb : Tab) (id : Nat) (ops : Array Oper) (K : Post) (st : St) : Prop :=
  match tabAt tb id with
  | some x => ops = x.1 ∧ drawX F.cx F.nt ops K st
  | none => drawT ops = true ∧ drawX F.cx F.nt ops K st
def regAt : Code → Nat → Option (Array Oper)
  | .region id ops _, i => bif Nat.beq id i then some ops else none
  | .seq a b, i => match regAt a i with | some x => some x | none => regAt b i
  | .cond _ a b, i => match regAt a i with | some x => some x | none => regAt b i
  | .block _ c, i => regAt c i
  | .scope c, i => regAt c i
  | .loop c, i => regAt c i
  | _, _ => none
def WalkT (tb : Tab) (kp : Nat) (fn : Func) (c : Code) (fns : List (FuncId × Spec)) (u : Lk) (args : List SV) (r : SV) : Prop :=
  ∀ L, LoopRule ⟨⟨tys, fns, u⟩, fn.ntmps, some kp⟩ (DXT ⟨⟨tys, fns, u⟩, fn.ntmps, some kp⟩ tb) L → wpX ⟨⟨tys, fns, u⟩, fn.ntmps, some kp⟩ (DXT ⟨⟨tys, fns, u⟩, fn.ntmps, some kp⟩ tb) L c (Fin ⟨tys, fns, u⟩ fn.results.toList r) ⟨args0 0 args, []⟩
theorem fn_okT {tb : Tab} {kp : Nat} {f : FuncId} {fn : Func} {c : Code} {fns : List (FuncId × Spec)} {u : Lk} {args : List SV} {r : SV} (hf : Try.prog.funcs[f]? = some fn) (hb : fn.body = some c) (G : FnsOK Try.prog fns) (ha : Nat.ble args.length fn.ntmps = true) (hr : closed r = true)
    (h : WalkT tb kp fn c fns u args r) : FnOK Try.prog f args r :=
  fnOK_of (F := ⟨⟨tys, fns, u⟩, fn.ntmps, some kp⟩) (D := DXT ⟨⟨tys, fns, u⟩, fn.ntmps, some kp⟩ tb) tysOK G hf hb rfl (Nat.le_of_ble_eq_true ha) hr (fun _ _ ops K st id hd => by
    unfold DXT at hd
    split at hd
    · rename_i x _
      exact drawX_means tysOK G mixed (by rw [hd.1]; exact x.2) hd.2
    · exact drawX_means tysOK G mixed hd.1 hd.2) h
theorem fns_nil : FnsOK Try.prog [] := fun f sp h => by cases h
theorem fns_cons {f : FuncId} {sp : Spec} {l : List (FuncId × Spec)} (hp : Plainly Try.prog f) (hs : SpecOK Try.prog f sp) (hl : FnsOK Try.prog l) : FnsOK Try.prog ((f, sp) :: l) := by
  intro g sp' h
  simp only [fnOf] at h
  cases hk : (f == g) with
  | true =>
    obtain rfl : f = g := by simpa using hk
    simp only [hk, cond_true, Option.some.injEq] at h
    subst h
    exact ⟨hp, hs⟩
  | false => simp only [hk, cond_false] at h; exact hl g sp' h
end Mx
