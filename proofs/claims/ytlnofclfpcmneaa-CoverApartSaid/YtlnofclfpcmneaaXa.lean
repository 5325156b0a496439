/- The walk's abstract values and what they say of memory. Own work; any program. -/
import Derived.WalkKit
namespace Mx
open Go
abbrev Hd := BitVec 104
abbrev Cu := Hd × Hd
abbrev Ru := Int × Cu × Int
inductive E | u8 | int | cube | rule | piece
  deriving DecidableEq
abbrev E.T : E → Type
  | .u8 => Int | .int => Int | .cube => Cu | .rule => Ru | .piece => Int × Int
inductive SV
  | i (k : IntKind) (n : Int)
  | b (x : Bool)
  | s (x : ByteArray)
  | hd (h : Hd)
  | pr (a b : SV)
  | sl (e : E) (l : List e.T)
  | nl
  | ow (j : Nat) (x : SV)
  | p (j : Nat) (path : List Bool) (o : Nat)
  | pb (j : Nat) (path : List Bool) (o : Nat) (idx : Int)
  | rp (x : SV)
  | rb (h : Hd) (idx : Int)
  | cl (f : FuncId) (x : SV)
  | tp (a b : SV)
  | on (c : Bool) (x : SV)
  | raw (v : Value)
  | un
inductive Ent
  | box (t : TypeId) (x : SV)
  | own0
  | own (et : TypeId) (e : E)
  | gone
structure St where
  tmps : List (Nat × SV)
  mem : List (Nat × Ent)
def E.tree : (e : E) → e.T → SV
  | .u8, n => .i .u8 n
  | .int, n => .i .i64 n
  | .cube, c => .pr (.hd c.1) (.hd c.2)
  | .rule, r => .pr (.i .i64 r.1) (.pr (.pr (.hd r.2.1.1) (.hd r.2.1.2)) (.i .i64 r.2.2))
  | .piece, q => .pr (.i .i64 q.1) (.i .i64 q.2)
def E.untree : (e : E) → SV → Option e.T
  | .u8, .i .u8 n => some n
  | .int, .i .i64 n => some n
  | .cube, .pr (.hd a) (.hd b) => some (a, b)
  | .rule, .pr (.i .i64 n) (.pr (.pr (.hd a) (.hd b)) (.i .i64 m)) => some (n, (a, b), m)
  | .piece, .pr (.i .i64 n) (.i .i64 m) => some (n, m)
  | _, _ => none
theorem E.untree_tree {e : E} {x : SV} {y : e.T} (h : e.untree x = some y) : e.tree y = x := by
  unfold E.untree at h
  split at h <;> first | (injection h with h; subst h; rfl) | cases h
def E.dflt : (e : E) → e.T
  | .u8 => (0 : Int) | .int => (0 : Int) | .cube => ((0, 0) : Cu) | .rule => ((0, (0, 0), 0) : Ru) | .piece => ((0, 0) : Int × Int)
def at_ (e : E) (l : List e.T) (i : Int) : e.T := l.getD i.toNat e.dflt
/-- byte k of a header -/
def hbn (h : Hd) (k : Nat) : Nat := (h.toNat >>> (96 - 8 * k)) % 256
def hb (h : Hd) (k : Int) : Int := (hbn h k.toNat : Int)
def hdCells (h : Hd) : List Value := (List.range 13).map fun k => .int .u8 (hbn h k)
theorem hdCells_length (h : Hd) : (hdCells h).length = 13 := by simp [hdCells]
def size : SV → Nat
  | .hd _ => 13
  | .pr a b => size a + size b
  | _ => 1
def isPr : SV → Bool
  | .hd _ | .pr _ _ => true
  | _ => false
/-- the cells of a value without slices and pointers -/
def flat : SV → List Value
  | .i k n => [.int k n]
  | .b x => [.bool x]
  | .s x => [.string x]
  | .hd h => hdCells h
  | .pr a b => flat a ++ flat b
  | .raw v => [v]
  | _ => [undef]
def E.cells (e : E) (x : e.T) : List Value := flat (e.tree x)
def E.sz : E → Nat
  | .u8 => 1 | .int => 1 | .cube => 26 | .rule => 28 | .piece => 2
theorem E.cells_length (e : E) (x : e.T) : (e.cells x).length = e.sz := by
  cases e <;> simp [E.cells, E.tree, flat, E.sz, hdCells_length]
structure Env where
  blk : Nat → Nat
  val : Nat → Value
def ReadsAt (w : World) (a : Addr) (el : List Value) : Prop := ∀ k, ∀ h : k < el.length, w.cell? (a.add k) = some el[k]
/-- 'A' holds the elements l -/
def OkR (ok : Nat → Nat → Prop) (a : Addr) (n : Nat) : Prop := ∀ k, k < n → ok a.block (a.off + k)
def RowAt (ok : Nat → Nat → Prop) (w : World) (A : Option Addr) (e : E) (l : List e.T) : Prop :=
  ∀ i, ∀ h : i < l.length, ∃ a, A = some a ∧ OkR ok (a.add (i * e.sz)) e.sz ∧ ReadsAt w (a.add (i * e.sz)) (e.cells l[i])
def relC (ok : Nat → Nat → Prop) (w : World) (V : Env) : SV → List Value → Prop
  | .i k n, cs => cs = [.int k n]
  | .b x, cs => cs = [.bool x]
  | .s x, cs => cs = [.string x]
  | .hd h, cs => cs = hdCells h
  | .pr a b, cs => ∃ c1 c2, cs = c1 ++ c2 ∧ relC ok w V a c1 ∧ relC ok w V b c2
  | .sl e l, cs => ∃ A c, cs = [.slice A l.length c] ∧ l.length ≤ c ∧ RowAt ok w A e l
  | .nl, cs => cs = [.slice none 0 0]
  | .ow j x, cs => cs = [V.val j] ∧ isPr x = false ∧ relC ok w V x cs
  | .p j _ o, cs => cs = [.pointer (some ⟨V.blk j, o, none⟩)]
  | .pb j _ o i, cs => cs = [.pointer (some ⟨V.blk j, o + i.toNat, none⟩)]
  | .rp x, cs => ∃ a el, cs = [.pointer (some a)] ∧ OkR ok a el.length ∧ relC ok w V x el ∧ ReadsAt w a el
  | .rb h i, cs => ∃ a, cs = [.pointer (some (a.add i.toNat))] ∧ OkR ok a 13 ∧ ReadsAt w a (hdCells h)
  | .cl f x, cs => ∃ a el, cs = [.func (.func f) #[] #[.pointer (some a)]] ∧ OkR ok a el.length ∧ relC ok w V x el ∧ ReadsAt w a el
  | .raw v, cs => cs = [v] ∧ v.oneCell' = true
  | .tp _ _, _ => False
  | .on _ _, _ => False
  | .un, _ => False
def mk (x : SV) (cs : List Value) : Value := if isPr x then .agg cs.toArray else cs.headD undef
def rel1 (ok : Nat → Nat → Prop) (w : World) (V : Env) (x : SV) (v : Value) : Prop := ∃ cs, relC ok w V x cs ∧ v = mk x cs
def relL (ok : Nat → Nat → Prop) (w : World) (V : Env) : SV → List Value → Prop
  | .tp a b, vs => ∃ v r, vs = v :: r ∧ rel1 ok w V a v ∧ relL ok w V b r
  | x, vs => ∃ v, vs = [v] ∧ rel1 ok w V x v
def relV (ok : Nat → Nat → Prop) (w : World) (V : Env) : SV → Value → Prop
  | .tp a b, v => ∃ vs, v = .tuple vs.toArray ∧ relL ok w V (.tp a b) vs
  | .on c x, v => (c = true → rel1 ok w V x v) ∧ (c = false → v = undef)
  | .un, _ => True
  | x, v => rel1 ok w V x v
section
variable {ok ok' : Nat → Nat → Prop} {w w' : World} {V V' : Env}
theorem block_add (a : Addr) (n : Nat) : (a.add n).block = a.block := by unfold Addr.add; split <;> rfl
theorem add_add (a : Addr) (i j : Nat) : (a.add i).add j = a.add (i + j) := by
  unfold Addr.add
  by_cases hi : i = 0 <;> by_cases hj : j = 0 <;> simp [hi, hj, Nat.add_assoc]
/-- does it name this variable? -/
def ment (j : Nat) : SV → Bool
  | .p k _ _ | .pb k _ _ _ => k == j
  | .ow k x => k == j || ment j x
  | .pr a b | .tp a b => ment j a || ment j b
  | .rp x | .on _ x | .cl _ x => ment j x
  | _ => false
def mentE (j : Nat) : Ent → Bool
  | .box _ x => ment j x
  | _ => false
/-- What is known stays known: more blocks may be read, those that could are as they were. -/
structure Keeps (ok ok' : Nat → Nat → Prop) (w w' : World) : Prop where
  oks : ∀ b k, ok b k → ok' b k
  heap : ∀ a : Addr, ok a.block a.off → w'.cell? a = w.cell? a
theorem Keeps.of_heap (h1 : ∀ b k, ok b k → ok' b k) (h2 : ∀ b k, ok b k → w'.heap[b]? = w.heap[b]?) : Keeps ok ok' w w' :=
  ⟨h1, fun a ha => World.cell?_of_block (h2 _ _ ha)⟩
theorem OkR.mono (h : ∀ b k, ok b k → ok' b k) {a : Addr} {n : Nat} (hr : OkR ok a n) : OkR ok' a n := fun k hk => h _ _ (hr k hk)
theorem off_add (a : Addr) (n : Nat) : (a.add n).off = a.off + n := by unfold Addr.add; split <;> simp_all
theorem OkR.part {a : Addr} {n m k : Nat} (hr : OkR ok a n) (h : m + k ≤ n) : OkR ok (a.add m) k := fun i hi => by
  rw [block_add, off_add, Nat.add_assoc]; exact hr _ (by omega)
theorem Keeps.refl : Keeps ok ok w w := ⟨fun _ _ h => h, fun _ _ => rfl⟩
/-- the variables that x names are where they were -/
def Same (V V' : Env) (x : SV) : Prop := ∀ j, ment j x = true → V'.blk j = V.blk j ∧ V'.val j = V.val j
theorem Same.refl {x : SV} : Same V V x := fun _ _ => ⟨rfl, rfl⟩
theorem Same.of_ne {k : Nat} {x : SV} (h : ∀ j, j ≠ k → V'.blk j = V.blk j ∧ V'.val j = V.val j) (hx : ment k x = false) : Same V V' x := fun j hj => h j (fun e => by subst e; rw [hx] at hj; cases hj)
theorem ReadsAt.keep {a : Addr} {el : List Value} {n : Nat} (h : Keeps ok ok' w w') (ha : OkR ok a n) (hn : el.length = n) (hr : ReadsAt w a el) : ReadsAt w' a el :=
  fun k hk => (h.heap _ (by rw [block_add, off_add]; exact ha k (by omega))).trans (hr k hk)
theorem RowAt.keep (h : Keeps ok ok' w w') {A : Option Addr} {e : E} {l : List e.T} (hr : RowAt ok w A e l) : RowAt ok' w' A e l :=
  fun i hi => by
    obtain ⟨a, rfl, hk, hr⟩ := hr i hi
    exact ⟨a, rfl, hk.mono h.oks, hr.keep h hk (E.cells_length _ _)⟩
theorem relC.keep (h : Keeps ok ok' w w') : ∀ {x : SV} {cs : List Value}, Same V V' x → relC ok w V x cs → relC ok' w' V' x cs
  | .i _ _, _, _, hr | .b _, _, _, hr | .s _, _, _, hr | .hd _, _, _, hr | .raw _, _, _, hr => hr
  | .pr a b, _, hs, ⟨c1, c2, hc, h1, h2⟩ => ⟨c1, c2, hc, relC.keep h (fun j hj => hs j (by simp [ment, hj])) h1, relC.keep h (fun j hj => hs j (by simp [ment, hj])) h2⟩
  | .sl _ _, _, _, ⟨A, c, hc, hl, hr⟩ => ⟨A, c, hc, hl, hr.keep h⟩
  | .nl, _, _, hr => hr
  | .ow j x, _, hs, ⟨hc, hp, hx⟩ => by
    have := (hs j (by simp [ment])).2
    exact ⟨by rw [this]; exact hc, hp, relC.keep h (fun j hj => hs j (by simp [ment, hj])) hx⟩
  | .p j _ _, _, hs, hc => by
    have := (hs j (by simp [ment])).1
    simp only [relC] at hc ⊢
    rw [this]; exact hc
  | .pb j _ _ _, _, hs, hc => by
    have := (hs j (by simp [ment])).1
    simp only [relC] at hc ⊢
    rw [this]; exact hc
  | .rp x, _, hs, ⟨a, el, hc, hk, hx, hr⟩ => ⟨a, el, hc, hk.mono h.oks, relC.keep h (fun j hj => hs j (by simpa [ment] using hj)) hx, hr.keep h hk rfl⟩
  | .rb hh i, _, _, ⟨a, hc, hk, hr⟩ => ⟨a, hc, hk.mono h.oks, hr.keep h hk (hdCells_length _)⟩
  | .cl f x, _, hs, ⟨a, el, hc, hk, hx, hr⟩ => ⟨a, el, hc, hk.mono h.oks, relC.keep h (fun j hj => hs j (by simpa [ment] using hj)) hx, hr.keep h hk rfl⟩
  | .tp _ _, _, _, hr => hr.elim
  | .on _ _, _, _, hr => hr.elim
  | .un, _, _, hr => hr.elim
theorem rel1.keep (h : Keeps ok ok' w w') {x : SV} {v : Value} (hs : Same V V' x) (hr : rel1 ok w V x v) : rel1 ok' w' V' x v := by
  obtain ⟨cs, hc, hv⟩ := hr
  exact ⟨cs, hc.keep h hs, hv⟩
theorem relL.keep (h : Keeps ok ok' w w') : ∀ {x : SV} {vs : List Value}, Same V V' x → relL ok w V x vs → relL ok' w' V' x vs := by
  intro x
  induction x with
  | tp a b _ ihb => exact fun hs ⟨v, r, hv, h1, h2⟩ => ⟨v, r, hv, h1.keep h (fun j hj => hs j (by simp [ment, hj])), ihb (fun j hj => hs j (by simp [ment, hj])) h2⟩
  | _ => exact fun hs ⟨v, hv, h1⟩ => ⟨v, hv, h1.keep h hs⟩
theorem relV.keep (h : Keeps ok ok' w w') {x : SV} {v : Value} (hs : Same V V' x) (hr : relV ok w V x v) : relV ok' w' V' x v := by
  cases x with
  | tp a b => obtain ⟨vs, hv, hl⟩ := hr; exact ⟨vs, hv, hl.keep h hs⟩
  | on c x => exact ⟨fun hc => (hr.1 hc).keep h (fun j hj => hs j (by simpa [ment] using hj)), hr.2⟩
  | un => trivial
  | _ => exact rel1.keep h hs hr
/-- one cell: what its value is -/
theorem relC.length {x : SV} : ∀ {cs : List Value}, relC ok w V x cs → cs.length = size x := by
  induction x with
  | pr a b iha ihb =>
    rintro cs ⟨c1, c2, rfl, h1, h2⟩
    simp [size, iha h1, ihb h2]
  | hd h => rintro cs rfl; simp [size, hdCells_length]
  | i | b | s => rintro cs rfl; rfl
  | raw v => rintro cs ⟨rfl, _⟩; rfl
  | sl e l => rintro cs ⟨A, c, rfl, _⟩; rfl
  | nl | p | pb => rintro cs rfl; rfl
  | ow j x => rintro cs ⟨rfl, _⟩; rfl
  | rp x => rintro cs ⟨a, el, rfl, _⟩; rfl
  | rb => rintro cs ⟨a, rfl, _⟩; rfl
  | cl f x => rintro cs ⟨a, el, rfl, _⟩; rfl
  | tp | on | un => intro cs h; exact h.elim
theorem relC.one {x : SV} : ∀ {cs : List Value}, relC ok w V x cs → (∀ j, (V.val j).oneCell' = true) → ∀ v ∈ cs, v.oneCell' = true := by
  induction x with
  | pr a b iha ihb =>
    rintro cs ⟨c1, c2, rfl, h1, h2⟩ hV v hv
    rcases List.mem_append.1 hv with hv | hv
    · exact iha h1 hV v hv
    · exact ihb h2 hV v hv
  | hd h =>
    rintro cs rfl _ v hv
    simp only [hdCells, List.mem_map] at hv
    obtain ⟨k, _, rfl⟩ := hv
    rfl
  | i | b | s => rintro cs rfl _ v hv; simp at hv; subst hv; rfl
  | raw u => rintro cs ⟨rfl, hu⟩ _ v hv; simp at hv; subst hv; exact hu
  | sl e l => rintro cs ⟨A, c, rfl, _⟩ _ v hv; simp at hv; subst hv; rfl
  | nl => rintro cs rfl _ v hv; simp at hv; subst hv; rfl
  | ow j x => rintro cs ⟨rfl, _⟩ hV v hv; simp at hv; subst hv; exact hV j
  | p | pb => rintro cs rfl _ v hv; simp at hv; subst hv; rfl
  | rp x => rintro cs ⟨a, el, rfl, _⟩ _ v hv; simp at hv; subst hv; rfl
  | rb => rintro cs ⟨a, rfl, _⟩ _ v hv; simp at hv; subst hv; rfl
  | cl f x => rintro cs ⟨a, el, rfl, _⟩ _ v hv; simp at hv; subst hv; rfl
  | tp | on | un => intro cs h; exact h.elim
/-! ### parts of a tree -/
end
def sub : SV → List Bool → Option SV
  | x, [] => some x
  | .pr a _, false :: q => sub a q
  | .pr _ b, true :: q => sub b q
  | _, _ :: _ => none
def upd : SV → List Bool → SV → Option SV
  | _, [], y => some y
  | .pr a b, false :: q, y => (upd a q y).bind fun a' => some (.pr a' b)
  | .pr a b, true :: q, y => (upd b q y).bind fun b' => some (.pr a b')
  | _, _ :: _, _ => none
def off : SV → List Bool → Nat
  | _, [] => 0
  | .pr a _, false :: q => off a q
  | .pr a b, true :: q => size a + off b q
  | _, _ :: _ => 0
section
variable {ok : Nat → Nat → Prop} {w : World} {V : Env}
/-- The cells of a part. -/
theorem relC.sub : ∀ {q : List Bool} {x y : SV} {cs : List Value}, sub x q = some y → relC ok w V x cs →
    ∃ pre post el, cs = pre ++ el ++ post ∧ pre.length = off x q ∧ relC ok w V y el
  | [], x, y, cs, h, hr => by
    simp only [Mx.sub] at h
    injection h with h; subst h
    exact ⟨[], [], cs, by simp, by simp [off], hr⟩
  | b :: q, x, y, cs, h, hr => by
    cases x with
    | pr a c =>
      obtain ⟨c1, c2, rfl, h1, h2⟩ := hr
      cases b with
      | false =>
        obtain ⟨pre, post, el, rfl, hp, he⟩ := relC.sub (q := q) (x := a) h h1
        exact ⟨pre, post ++ c2, el, by simp, hp, he⟩
      | true =>
        obtain ⟨pre, post, el, rfl, hp, he⟩ := relC.sub (q := q) (x := c) h h2
        exact ⟨c1 ++ pre, post, el, by simp, by simp [off, hp, h1.length], he⟩
    | _ => simp [Mx.sub] at h
/-- The cells when a part is another one of the same size. -/
theorem relC.upd : ∀ {q : List Bool} {x y z x' : SV} {cs el' : List Value}, upd x q z = some x' → Mx.sub x q = some y → size z = size y → relC ok w V x cs → relC ok w V z el' →
    ∃ pre post el, cs = pre ++ el ++ post ∧ pre.length = off x q ∧ el.length = el'.length ∧ relC ok w V x' (pre ++ el' ++ post)
  | [], x, y, z, x', cs, el', h, hs, hz, hr, he => by
    simp only [Mx.upd] at h; simp only [Mx.sub] at hs
    injection h with h; subst h
    injection hs with hs; subst hs
    exact ⟨[], [], cs, by simp, by simp [off], by rw [hr.length, he.length, hz], by simpa using he⟩
  | b :: q, x, y, z, x', cs, el', h, hs, hz, hr, he => by
    cases x with
    | pr a c =>
      obtain ⟨c1, c2, rfl, h1, h2⟩ := hr
      cases b with
      | false =>
        simp only [Mx.upd, Option.bind_eq_some_iff] at h
        obtain ⟨a', ha, hx⟩ := h
        injection hx with hx; subst hx
        obtain ⟨pre, post, el, rfl, hp, hl, hn⟩ := relC.upd (q := q) (x := a) ha hs hz h1 he
        exact ⟨pre, post ++ c2, el, by simp, hp, hl, pre ++ el' ++ post, c2, by simp, hn, h2⟩
      | true =>
        simp only [Mx.upd, Option.bind_eq_some_iff] at h
        obtain ⟨a', ha, hx⟩ := h
        injection hx with hx; subst hx
        obtain ⟨pre, post, el, rfl, hp, hl, hn⟩ := relC.upd (q := q) (x := c) ha hs hz h2 he
        exact ⟨c1 ++ pre, post, el, by simp, by simp [off, hp, h1.length], hl, c1, pre ++ el' ++ post, by simp, h1, hn⟩
    | _ => simp [Mx.upd] at h
end
end Mx
