/- Slices that grow: append. Own work; any program. -/
import Derived.Test.YtlnofclfpcmneaaXe
namespace Mx
open Go Go.RowKit
section
variable {P : Program} {cx : Ctx} {nt : Nat} {w0 : World} {ok0 ok ok' : Nat → Nat → Prop} {V V' : Env} {tm : Tm} {me : Nat → Ent} {a : Act} {w w' : World}
theorem run_append_at (w : World) (base : Nat) (t ty e : TypeId) (i : TypeInfo) (z : Value) (size : Nat) (ht : P.underlying t = some (.slice e)) (hi : P.info? e = some i) (hz : i.zero = some z)
    (hsize : i.size = size) (hzs : z.cells.size = size) (hsz : 0 < size)
    (v : Value) (n : Nat) (xs : List Value) (hown : w.ownsRow base e size v n xs)
    (A : Addr) (m c : Nat) (news : List Value) (hl : news.length = m * size) (hnews : ∀ j u, news[j]? = some u → w.cell? (A.add j) = some u) (h1 : ∀ u ∈ news, u.oneCell' = true)
    (h63 : n + m ≤ maxLen) (hbytes : (n + m) * i.bytes ≤ 140737488355328) (hbase : base ≤ w.heap.size) :
    ∃ v' w', (Builtin.append_ #[t, t] ty #[v, .slice (some A) m c]).run P w = .ok v' w' ∧ w'.ownsRow base e size v' (n + m) (xs ++ news) ∧ w.grownBy w' v.ownBlock ∧
      (v'.ownBlock = v.ownBlock ∨ (w.grownBy w' none ∧ ∀ b, v'.ownBlock = some b → w.heap.size ≤ b)) := by
  obtain ⟨v', w', hr, h2, h3, _⟩ := run_append_own (P := P) w base t ty e i z size i.bytes ht hi hz hsize rfl hzs hsz v n xs hown A m c news hl hnews h1 h63 hbytes hbase
  refine ⟨v', w', hr, h2, h3, ?_⟩
  subst hsize
  have hsmall : n + m ≤ 9223372036854775807 := by simp only [maxLen] at h63; omega
  rcases hown.2 with ⟨rfl, rfl⟩ | ⟨g, cap, cur, rfl, hbg, hg, hnc, hcm, hcs, htake⟩
  · by_cases hm : m = 0
    · subst hm
      have hn : news = [] := List.eq_nil_of_length_eq_zero (by simpa using hl)
      subst hn
      have : (Builtin.append_ #[t, t] ty #[.slice none 0 0, .slice (some A) 0 c]).run P w = .ok (.slice none 0 0) w := by
        simp [Builtin.append_, run_underlying ht, Go.sizeOf, typeInfo, hi, Builtin.lenOf, Builtin.firstCells, loadCells, loadCellsFrom]
      rw [this] at hr
      injection hr with hr _
      subst hr
      exact .inl rfl
    · have hr' := run_append_nil (P := P) w t ty e i z ht hi hz A m c news hl hnews (by omega) (by omega) (by have hb := hbytes; simp only [Nat.zero_add] at hb; omega)
      rw [hr'] at hr
      injection hr with hr hw
      subst hr hw
      exact .inr ⟨⟨rfl, rfl, rfl, by simp, fun k hk _ => Below.heap_alloc w.drew _ k hk⟩, fun b hb => by simp only [Value.ownBlock, Option.some.injEq] at hb; omega⟩
  · by_cases hroom : n + m ≤ cap
    · have hfit : n * i.size + news.length ≤ cur.size := by rw [hl, hcs, ← Nat.add_mul]; exact Nat.mul_le_mul_right _ hroom
      have hr' := run_append_room (P := P) w t ty e i ht hi g n cap cur hg A m c news hl hnews h1 hroom hfit
      rw [hr'] at hr
      injection hr with hr _
      subst hr
      exact .inl rfl
    · have holds : ∀ j u, xs[j]? = some u → w.cell? ((⟨g, 0, none⟩ : Addr).add j) = some u := hown.cells (g := g) rfl
      have hr' := run_append_grow (P := P) w t ty e i z ht hi hz ⟨g, 0, none⟩ n cap xs hown.1 holds A m c news hl hnews (by omega) (by omega) (growslice_fits (by omega) hbytes)
      rw [hr'] at hr
      injection hr with hr hw
      subst hr hw
      exact .inr ⟨⟨rfl, rfl, rfl, by simp, fun k hk _ => Below.heap_alloc w.drew _ k hk⟩, fun b hb => by simp only [Value.ownBlock, Option.some.injEq] at hb; omega⟩
theorem row_cells {A : Addr} {e : E} : ∀ {l : List e.T} {B : Addr}, (∀ i, ∀ h : i < l.length, ReadsAt w (B.add (i * e.sz)) (e.cells l[i])) → ∀ k u, (l.flatMap e.cells)[k]? = some u → w.cell? (B.add k) = some u
  | [], B, _, k, u, h => by simp at h
  | x :: l, B, hr, k, u, h => by
    rw [List.flatMap_cons] at h
    have hx := hr 0 (by simp)
    simp only [Nat.zero_mul, Addr.add_zero', List.getElem_cons_zero] at hx
    by_cases hk : k < (e.cells x).length
    · rw [List.getElem?_append_left hk, List.getElem?_eq_getElem hk, Option.some.injEq] at h
      rw [hx k hk, h]
    · rw [List.getElem?_append_right (by omega)] at h
      have := row_cells (A := A) (B := B.add e.sz) (l := l) (fun i hi => by
        have := hr (i + 1) (by simpa using hi)
        rw [Nat.add_mul, Nat.one_mul, Nat.add_comm] at this
        rw [add_add]
        simpa using this) _ _ h
      rw [add_add, E.cells_length] at this
      rw [E.cells_length] at hk
      rwa [show e.sz + (k - e.sz) = k by omega] at this
theorem RowAt.cells {A : Addr} {e : E} {l : List e.T} (h : RowAt ok w (some A) e l) : ∀ k u, (l.flatMap e.cells)[k]? = some u → w.cell? (A.add k) = some u :=
  row_cells (A := A) (fun i hi => by
    obtain ⟨B, hB, _, hr⟩ := h i hi
    cases hB
    exact hr)
theorem cells_one' (e : E) (l : List e.T) : ∀ u ∈ l.flatMap e.cells, u.oneCell' = true := by
  intro u hu
  obtain ⟨x, _, hu⟩ := List.mem_flatMap.1 hu
  have := tree_flat (ok := fun _ _ => True) (w := default) (V := ⟨fun _ => 0, fun _ => .bool false⟩) e x
  exact this.one (fun _ => rfl) u hu
def catS : SV → SV → Option SV
  | .sl e l, .nl => some (.sl e l)
  | .nl, .sl e l => some (.sl e l)
  | .sl .u8 l, .sl .u8 m => some (.sl .u8 (l ++ m))
  | .sl .int l, .sl .int m => some (.sl .int (l ++ m))
  | .sl .cube l, .sl .cube m => some (.sl .cube (l ++ m))
  | .sl .rule l, .sl .rule m => some (.sl .rule (l ++ m))
  | .sl .piece l, .sl .piece m => some (.sl .piece (l ++ m))
  | _, _ => none
def isSl (e : E) (x : SV) (l : List e.T) : Prop := x = .sl e l ∨ (x = .nl ∧ l = [])
theorem catS_spec {x y z : SV} (h : catS x y = some z) : ∃ e, ∃ l m : List e.T, z = .sl e (l ++ m) ∧ isSl e x l ∧ isSl e y m := by
  unfold catS at h
  split at h <;> simp only [Option.some.injEq, reduceCtorEq] at h <;> subst h
  · exact ⟨_, _, [], by rw [List.append_nil], .inl rfl, .inr ⟨rfl, rfl⟩⟩
  · exact ⟨_, [], _, by rw [List.nil_append], .inr ⟨rfl, rfl⟩, .inl rfl⟩
  all_goals exact ⟨_, _, _, rfl, .inl rfl, .inl rfl⟩
def keyOf : SV → Option Tmp → Option Nat
  | .ow j _, _ => some j
  | .nl, d => d
  | _, _ => none
def rowOK : SV → Ent → TypeId → E → Bool
  | .ow _ .nl, .own0, _, _ => true
  | .ow _ (.sl _ _), .own et' e', et, e => et' == et && e' == e
  | .nl, _, _, _ => true
  | _, _, _, _ => false
def eOK (e : E) : SV → Bool
  | .sl e' _ => e' == e
  | _ => false
/-- append: what must hold; whose; of what; the whole -/
def evalA (cx : Ctx) (tm : Tm) (me : Nat → Ent) (d : Option Tmp) (x y : Operand) (t : TypeId) : Option (Prop × Nat × TypeId × E × SV) :=
  (tyOf cx.tys t).bind fun ti => (operand tm x).bind fun xv => (operandB tm y).bind fun yv => (keyOf xv d).bind fun j => (catS (bare xv) yv).bind fun z =>
    match ti with
    | .sl et e => bif eOK e z && rowOK xv (me j) et e then some (lenS z ≤ 1099511627776, j, et, e, z) else none
    | _ => none
def catSL (u : Lk) : SV → SV → Option SV
  | .sl e l, .nl => some (.sl e l)
  | .nl, .sl e l => some (.sl e l)
  | .sl .u8 l, .sl .u8 m => some (.sl .u8 (lk2 u (fun l m => l ++ m) l m))
  | .sl .int l, .sl .int m => some (.sl .int (lk2 u (fun l m => l ++ m) l m))
  | .sl .cube l, .sl .cube m => some (.sl .cube (lk2 u (fun l m => l ++ m) l m))
  | .sl .rule l, .sl .rule m => some (.sl .rule (lk2 u (fun l m => l ++ m) l m))
  | .sl .piece l, .sl .piece m => some (.sl .piece (lk2 u (fun l m => l ++ m) l m))
  | _, _ => none
theorem catSL_eq (u : Lk) (x y : SV) : catSL u x y = catS x y := by
  unfold catSL catS
  obtain rfl := Lk.eq_std u
  split <;> rfl
def evalAL (cx : Ctx) (tm : Tm) (me : Nat → Ent) (d : Option Tmp) (x y : Operand) (t : TypeId) : Option (Prop × Nat × TypeId × E × SV) :=
  (tyOf cx.tys t).bind fun ti => (operand tm x).bind fun xv => (operandB tm y).bind fun yv => (keyOf xv d).bind fun j => (catSL cx.u (bare xv) yv).bind fun z =>
    match ti with
    | .sl et e => bif eOK e z && rowOK xv (me j) et e then some (lq1 cx.u (fun z => lenS z ≤ 1099511627776) z, j, et, e, z) else none
    | _ => none
theorem evalAL_eq (cx : Ctx) (tm : Tm) (me : Nat → Ent) (d : Option Tmp) (x y : Operand) (t : TypeId) : evalAL cx tm me d x y t = evalA cx tm me d x y t := by
  unfold evalAL evalA
  simp only [catSL_eq]
  obtain ⟨tys, fns, u⟩ := cx
  obtain rfl := Lk.eq_std u
  rfl
theorem own_base {N M : Nat} (hN : M ≤ N) {et : TypeId} {sz n : Nat} {v : Value} {xs : List Value} (h : w.ownsRow N et sz v n xs) : w.ownsRow M et sz v n xs := by
  obtain ⟨h1, h2⟩ := h
  refine ⟨h1, h2.imp id ?_⟩
  rintro ⟨g, cap, cur, rfl, hg, h3⟩
  exact ⟨g, cap, cur, rfl, by omega, h3⟩
theorem Ext.eq {l m : List Value} (hl : l.length = m.length) (h : ∀ (k : Nat) (u : Value), l[k]? = some u → m[k]? = some u) : l = m := by
  apply List.ext_getElem? 
  intro k
  by_cases hk : k < l.length
  · rw [List.getElem?_eq_getElem hk]
    exact (h k _ (List.getElem?_eq_getElem hk)).symm
  · rw [List.getElem?_eq_none (by omega), List.getElem?_eq_none (by omega)]
theorem run_append_none (w : World) (base : Nat) (t ty e : TypeId) (i : TypeInfo) (size : Nat) (ht : P.underlying t = some (.slice e)) (hi : P.info? e = some i)
    (v : Value) (n c : Nat) (xs : List Value) (hown : w.ownsRow base e size v n xs) :
    (Builtin.append_ #[t, t] ty #[v, .slice none 0 c]).run P w = .ok v w := by
  rcases hown.2 with ⟨rfl, rfl⟩ | ⟨g, cap, cur, rfl, _, _, hnc, _⟩
  · simp [Builtin.append_, run_underlying ht, Go.sizeOf, typeInfo, hi, Builtin.lenOf, Builtin.firstCells]
  · simp [Builtin.append_, run_underlying ht, Go.sizeOf, typeInfo, hi, Builtin.lenOf, Builtin.firstCells, hnc, storeCells]
/-- append to a row of one's own, whatever comes -/
theorem run_append_any (w : World) (base : Nat) {t ty et : TypeId} {e : E} (h : TyOK P t (.sl et e)) {v : Value} {l m : List e.T} (hown : w.ownsRow base et e.sz v l.length (l.flatMap e.cells))
    {A : Option Addr} {c : Nat} (hr : RowAt ok w A e m) (hlen : l.length + m.length ≤ 1099511627776) (hbase : base ≤ w.heap.size) :
    ∃ v' w', (Builtin.append_ #[t, t] ty #[v, .slice A m.length c]).run P w = .ok v' w' ∧ w'.ownsRow base et e.sz v' (l ++ m).length ((l ++ m).flatMap e.cells) ∧ w.grownBy w' v.ownBlock ∧
      (v'.ownBlock = v.ownBlock ∨ (w.grownBy w' none ∧ ∀ b, v'.ownBlock = some b → w.heap.size ≤ b)) := by
  obtain ⟨hu, ⟨i, z, hi, hsz, hz, hzs, hby⟩, _⟩ := h
  cases A with
  | none =>
    cases m with
    | cons x m => obtain ⟨a, h, _⟩ := hr 0 (by simp); cases h
    | nil =>
      refine ⟨v, w, run_append_none w base t ty et i e.sz hu hi v l.length c _ hown, ?_, ⟨rfl, rfl, rfl, Nat.le_refl _, fun _ _ _ => rfl⟩, .inl rfl⟩
      rw [List.append_nil]; exact hown
  | some A =>
    have hb : (l.length + m.length) * i.bytes ≤ 140737488355328 := by
      have := Nat.mul_le_mul hlen hby
      omega
    obtain ⟨v', w', h1, h2, h3, h4⟩ := run_append_at (P := P) w base t ty et i z e.sz hu hi hz hsz hzs (by cases e <;> simp [E.sz]) v l.length _ hown A m.length c (m.flatMap e.cells) (flat_len e m) hr.cells (cells_one' e m) (by simp only [maxLen]; omega) hb hbase
    exact ⟨v', w', h1, by rw [List.length_append, List.flatMap_append]; exact h2, h3, h4⟩
theorem isSl_rel {e : E} {x : SV} {l : List e.T} {v : Value} (h : isSl e x l) (hr : relV ok w V x v) : ∃ A c, v = .slice A l.length c ∧ l.length ≤ c ∧ RowAt ok w A e l := by
  rcases h with rfl | ⟨rfl, rfl⟩
  · exact rel_sl hr
  · obtain ⟨_, rfl, rfl⟩ := hr
    exact ⟨none, 0, rfl, Nat.le_refl _, fun i hi => by simp at hi⟩
/-- APPEND. -/
theorem append_wp (C : TysOK P cx.tys) (R : Rep nt w0 ok0 ok V tm me a w) {O : Oper} {x y : Operand} {t : TypeId} {c : Call} (hO : O.op = .call c) (hcal : c.callee = .builtin .append) (hargs : c.args = #[x, y]) (htys : c.argTypes = #[t, t])
    {d : Option Tmp} {q : Prop} {j : Nat} {et : TypeId} {e : E} {z : SV} (he : evalA cx tm me d x y t = some (q, j, et, e, z)) (hq : q)
    {tm' : Tm} {me' : Nat → Ent} (R' : Rep nt w0 ok0 ok V tm' me' a w) (hn : NoMent j tm' me') (hme : me' j = bif mentE j (me j) then .gone else me j)
    {K : Act → World → Prop} {Q : Exit → Act → World → Prop} (hk : ∀ ok' V' v w', Rep nt w0 ok0 ok' V' tm' (effect me' (some (j, .own et e))) a w' → relV ok' w' V' (.ow j z) v → K (a.put O.dst v) w') : O.wp P a w K Q := by
  simp only [evalA, Option.bind_eq_some_iff] at he
  obtain ⟨ti, hT, xv, hx, yv, hy, j', hj', z', hz, he⟩ := he
  split at he
  case h_2 => cases he
  rename_i et' e'
  cases hb : (eOK e' z' && rowOK xv (me j') et' e') with
  | false => simp [hb] at he
  | true =>
    simp only [hb, cond_true, Option.some.injEq, Prod.mk.injEq] at he
    obtain ⟨rfl, rfl, rfl, rfl, rfl⟩ := he
    simp only [Bool.and_eq_true] at hb
    obtain ⟨he1, hrow⟩ := hb
    obtain ⟨e1, l, m, rfl, hl, hm⟩ := catS_spec hz
    obtain rfl : e1 = e' := by simpa [eOK] using he1
    have hlen : l.length + m.length ≤ 1099511627776 := by
      have : ((l ++ m).length : Int) ≤ 1099511627776 := hq
      rw [List.length_append] at this
      omega
    have ry := R.operandB hy
    have rx := R.operand hx
    obtain ⟨A, cy, hyv, _, hyr⟩ := isSl_rel hm ry
    have hN := R.below.size
    have key : ∃ base, base ≤ w.heap.size ∧ w0.heap.size ≤ base ∧ w.ownsRow base et' e1.sz (a.eval x) l.length (l.flatMap e1.cells) ∧ (∀ b, (a.eval x).ownBlock = some b → me' j' = .own et' e1 ∧ a.eval x = V.val j') := by
      unfold rowOK at hrow
      split at hrow
      · rename_i jj hmj
        obtain ⟨_, ⟨rfl, _, h1⟩, h2⟩ := rx
        have hv := List.head_eq_of_cons_eq (show _ = [Value.slice none 0 0] from h1)
        have hxe : a.eval x = .slice none 0 0 := h2.trans hv
        have hl0 : l = [] := by
          rcases hl with h | ⟨_, h⟩
          · simp [bare] at h
          · exact h
        subst hl0
        exact ⟨w.heap.size, Nat.le_refl _, hN, by rw [hxe]; exact World.ownsRow_nil _ _ _ _, fun b hb => by rw [hxe] at hb; cases hb⟩
      · rename_i jj e0 l0 et0 e0' hmj hj2
        simp only [Bool.and_eq_true, beq_iff_eq] at hrow
        obtain ⟨rfl, rfl⟩ := hrow
        simp only [keyOf, Option.some.injEq] at hj'
        subst hj'
        obtain ⟨_, ⟨rfl, _, h1⟩, h2⟩ := rx
        have hxe : a.eval x = V.val jj := h2
        obtain ⟨A', c', hA, _, hr⟩ := isSl_rel (V := V) hl (show relV ok w V (bare (.ow jj (.sl e0 l0))) (V.val jj) from ⟨_, h1, rfl⟩)
        have hmem := R.mem jj
        rw [hmj] at hmem
        obtain ⟨xs, hown⟩ := hmem
        have hln : lenOf (V.val jj) = l.length := by rw [hA]; rfl
        rw [hln] at hown
        have hxs : l.flatMap e0'.cells = xs := by
          refine Ext.eq (by rw [flat_len, hown.1]) fun k u hu => ?_
          have hk : k < xs.length := by
            have := (List.getElem?_eq_some_iff.1 hu).1
            rw [flat_len] at this
            rw [hown.1]; exact this
          rcases hown.2 with ⟨h', hn0⟩ | ⟨g, cap, cur, h', _⟩
          · exfalso
            rw [hown.1, hn0] at hk
            omega
          · rw [hA] at h'
            injection h' with hAg _ _
            subst hAg
            have c1 := hr.cells k u hu
            have c2 := hown.cells (g := g) (by rw [hA]; rfl) k _ (List.getElem?_eq_getElem hk)
            rw [List.getElem?_eq_getElem hk, ← c2, c1]
        subst hxs
        exact ⟨w0.heap.size, hN, Nat.le_refl _, by rw [hxe]; exact hown, fun b hb => ⟨by rw [hme, hmj]; rfl, hxe⟩⟩
      · obtain ⟨_, rfl, h2⟩ := rx
        have hxe : a.eval x = .slice none 0 0 := h2
        have hl0 : l = [] := by
          rcases hl with h | ⟨_, h⟩
          · simp [bare] at h
          · exact h
        subst hl0
        exact ⟨w.heap.size, Nat.le_refl _, hN, by rw [hxe]; exact World.ownsRow_nil _ _ _ _, fun b hb => by rw [hxe] at hb; cases hb⟩
      · cases hrow
    obtain ⟨base, hb1, hb2, hown, hkey⟩ := key
    obtain ⟨v', w', hrun, hown', hg, hor⟩ := run_append_any (ok := ok) (ty := O.type) w base (C _ _ hT) hown (A := A) (c := cy) hyr hlen hb1
    have hsame : ∀ k, k < w.heap.size → (v'.ownBlock = (a.eval x).ownBlock → (a.eval x).ownBlock ≠ some k) → w'.heap[k]? = w.heap[k]? := fun k hk hne => by
      rcases hor with h | ⟨h, _⟩
      · exact hg.block k hk (fun h' => hne h h'.symm)
      · exact h.block k hk (by simp)
    obtain ⟨V', ok', hR, hrel⟩ := R'.grown hn (l := l ++ m) (e := e1) (et := et') (own_base hb2 hown') hg.os hg.tape hg.output hg.size
      (fun k hk hne => hsame k hk (fun _ h' => by
        obtain ⟨h1, h2⟩ := hkey k h'
        exact hne (by rw [h1]; simp only [blkOf]; rw [← h2]; exact h')))
      (fun B hB => by
        by_cases hne : v'.ownBlock = (a.eval x).ownBlock ∧ (a.eval x).ownBlock = some B.block
        · obtain ⟨hs, hbk⟩ := hne
          obtain ⟨h1, h2⟩ := hkey _ hbk
          have hmine := (R'.mine j' B.block (by rw [h1]; simp only [blkOf]; rw [← h2]; exact hbk)).2.2
          have hlt : B.off < l.length * e1.sz := by
            have hln : lenOf (V.val j') = l.length := by rw [← h2]; exact lenOf_own hown
            refine Nat.lt_of_not_le fun hle => hmine B.off ?_ hB
            rw [h1]
            simp only [fromOf]
            rw [hln]; exact hle
          obtain ⟨bb, bo, sp⟩ := B
          cases sp with
          | some s =>
            have : ∀ w : World, w.cell? ⟨bb, bo, some s⟩ = none := fun w => by
              unfold World.cell?
              split <;> simp
            rw [this, this]
          | none =>
            have hlt' : bo < (l.flatMap e1.cells).length := by rw [flat_len]; exact hlt
            have c1 := hown.cells hbk bo _ (List.getElem?_eq_getElem hlt')
            have c2 := hown'.cells (hs.trans hbk) bo ((l.flatMap e1.cells)[bo]) (by rw [List.flatMap_append, List.getElem?_append_left hlt', List.getElem?_eq_getElem hlt'])
            rw [add_none, Nat.zero_add] at c1 c2
            rw [c1, c2]
        · exact World.cell?_of_block (hsame _ (R'.oks _ _ hB).1 fun h1 h2 => hne ⟨h1, h2⟩))
      (fun b hb => by
        rcases hor with h | ⟨_, h⟩
        · have hb' := h.symm.trans hb
          obtain ⟨h1, h2⟩ := hkey b hb'
          refine .inl ⟨by rw [h1]; simp only [blkOf]; rw [← h2]; exact hb', ?_⟩
          rw [h1]
          simp only [fromOf]
          have hln : lenOf (V.val j') = l.length := by rw [← h2]; exact lenOf_own hown
          rw [hln, List.length_append]
          exact Nat.mul_le_mul_right _ (Nat.le_add_right _ _)
        · exact .inr (h b hb))
    unfold Oper.wp execOp
    have hargs' : c.args.map a.eval = #[a.eval x, .slice A m.length cy] := by rw [hargs]; simp [hyv]
    simp only [hO, resolve, hcal, hargs', htys, invoke, builtin, Sem.run_bind, Sem.run_pure, Result.andThen_ok, hrun]
    exact hk _ _ _ _ hR hrel
end
end Mx
