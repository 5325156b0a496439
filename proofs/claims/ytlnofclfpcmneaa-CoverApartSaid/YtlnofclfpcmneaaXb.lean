/- The walk's evaluator: one operation over abstract values; what it reads is what Go reads. Own work; any program. -/
import Derived.Test.YtlnofclfpcmneaaXa
namespace Mx
open Go
inductive TI
  | int (k : IntKind) | bo | str | sc | hd
  | st (fs : List (Nat × TypeId)) (sz : Nat) (zero : SV) (eq : Bool)
  | sl (et : TypeId) (e : E)
/-- a value of that type, by its shape -/
def fits : TI → SV → Bool
  | .hd, .hd _ => true
  | .st _ sz _ _, .pr a b => size (.pr a b) == sz
  | .int k, .i k' _ => k == k'
  | .bo, .b _ => true
  | .str, .s _ => true
  | .sl _ e, .sl e' _ => e == e'
  | .sc, .p _ _ _ | .sc, .pb _ _ _ _ | .sc, .rp _ | .sc, .rb _ _ => true
  | _, _ => false
/-- the same make, whatever the numbers -/
def skel : SV → SV → Bool
  | .i k _, .i k' _ => k == k'
  | .b _, .b _ => true
  | .s _, .s _ => true
  | .hd _, .hd _ => true
  | .pr a b, .pr c d => skel a c && skel b d
  | _, _ => false
def ent : List (Nat × Ent) → Nat → Ent
  | [], _ => .gone
  | (k, v) :: r, t => match k == t with | true => v | false => ent r t
def getT : List (Nat × SV) → Nat → Option SV
  | [], _ => none
  | (k, v) :: r, t => match k == t with | true => some v | false => getT r t
def tyOf : List (TypeId × TI) → TypeId → Option TI
  | [], _ => none
  | (k, v) :: r, t => match k == t with | true => some v | false => tyOf r t
abbrev Spec := List SV → Option (Prop × SV)
def fnOf : List (FuncId × Spec) → FuncId → Option Spec
  | [], _ => none
  | (k, v) :: r, t => match k == t with | true => some v | false => fnOf r t
/-- a lock: what stands behind it is not unfolded while the evaluator runs -/
structure Lk where
  f1 : {α β : Type} → (α → β) → α → β
  f2 : {α β γ : Type} → (α → β → γ) → α → β → γ
  f3 : {α β γ δ : Type} → (α → β → γ → δ) → α → β → γ → δ
  e1 : ∀ {α β : Type} (f : α → β) (x : α), f1 f x = f x
  e2 : ∀ {α β γ : Type} (f : α → β → γ) (x : α) (y : β), f2 f x y = f x y
  e3 : ∀ {α β γ δ : Type} (f : α → β → γ → δ) (x : α) (y : β) (z : γ), f3 f x y z = f x y z
def Lk.std : Lk := ⟨fun f => f, fun f => f, fun f => f, fun _ _ => rfl, fun _ _ _ => rfl, fun _ _ _ _ => rfl⟩
theorem Lk.eq_std (u : Lk) : u = Lk.std := by
  obtain ⟨f1, f2, f3, e1, e2, e3⟩ := u
  have h1 : @f1 = fun {α β : Type} (f : α → β) => f := by funext α β f x; exact e1 f x
  have h2 : @f2 = fun {α β γ : Type} (f : α → β → γ) => f := by funext α β γ f x y; exact e2 f x y
  have h3 : @f3 = fun {α β γ δ : Type} (f : α → β → γ → δ) => f := by funext α β γ δ f x y z; exact e3 f x y z
  subst h1 h2 h3
  rfl
def lk1 {α β : Type} (u : Lk) (f : α → β) (x : α) : β := u.f1 f x
def lk2 {α β γ : Type} (u : Lk) (f : α → β → γ) (x : α) (y : β) : γ := u.f2 f x y
def lk3 {α β γ δ : Type} (u : Lk) (f : α → β → γ → δ) (x : α) (y : β) (z : γ) : δ := u.f3 f x y z
def lq1 {α : Type} (u : Lk) (f : α → Prop) (x : α) : Prop := u.f1 f x
def lq2 {α β : Type} (u : Lk) (f : α → β → Prop) (x : α) (y : β) : Prop := u.f2 f x y
def lq3 {α β γ : Type} (u : Lk) (f : α → β → γ → Prop) (x : α) (y : β) (z : γ) : Prop := u.f3 f x y z
structure Ctx where
  tys : List (TypeId × TI)
  fns : List (FuncId × Spec)
  u : Lk
def ofConst : Value → Option SV
  | .int k n => some (.i k n)
  | .bool b => some (.b b)
  | .string s => some (.s s)
  | .agg _ | .tuple _ => none
  | .slice none 0 0 => some .nl
  | v => some (.raw v)
abbrev Tm := Nat → Option SV
def operand (tm : Tm) : Operand → Option SV
  | .tmp t => tm t
  | .const v => ofConst v
  | _ => none
def bare : SV → SV
  | .ow _ x => x
  | x => x
def operandB (tm : Tm) (x : Operand) : Option SV := (operand tm x).map bare
def operands (tm : Tm) : List Operand → Option (List SV)
  | [] => some []
  | x :: r => (operand tm x).bind fun v => (operands tm r).bind fun vs => some (v :: vs)
def binI (op : BinOp) (k : IntKind) (a b : Int) : Option (Prop × SV) :=
  match op with
  | .add => some (True, .i k (k.wrap (a + b)))
  | .sub => some (True, .i k (k.wrap (a - b)))
  | .mul => some (True, .i k (k.wrap (a * b)))
  | .quo => some (b ≠ 0, .i k (k.wrap (a.tdiv b)))
  | .rem => some (b ≠ 0, .i k (a.tmod b))
  | .and => some (True, .i k (bits .and k a b))
  | .or => some (True, .i k (bits .or k a b))
  | .xor => some (True, .i k (bits .xor k a b))
  | .andNot => some (True, .i k (bits .andNot k a b))
  | .eql => some (True, .b (a == b))
  | .neq => some (True, .b (a != b))
  | .lss => some (True, .b (decide (a < b)))
  | .leq => some (True, .b (decide (a ≤ b)))
  | .gtr => some (True, .b (decide (b < a)))
  | .geq => some (True, .b (decide (b ≤ a)))
  | _ => none
def shV (op : BinOp) (k : IntKind) (a b : Int) : Option (Prop × SV) :=
  match op with
  | .shl => some (0 ≤ b, .i k (k.wrap (a * 2 ^ (min b.toNat k.bits))))
  | .shr => some (0 ≤ b, .i k (a.fdiv (2 ^ (min b.toNat k.bits))))
  | _ => none
def eqv : SV → SV → Bool
  | .i _ a, .i _ b => a == b
  | .b a, .b b => a == b
  | .hd a, .hd b => a == b
  | .pr a b, .pr c d => eqv a c && eqv b d
  | _, _ => false
def negB (op : BinOp) (b : Bool) : Option (Prop × SV) :=
  match op with
  | .eql => some (True, .b b)
  | .neq => some (True, .b (!b))
  | _ => none
def binV (cx : Ctx) (op : BinOp) (t : TypeId) (x y : SV) : Option (Prop × SV) :=
  match x, y with
  | .i k a, .i k' b =>
    match op with
    | .shl | .shr => shV op k a b
    | _ => bif k == k' then binI op k a b else none
  | .b a, .b b =>
    match tyOf cx.tys t with
    | some .bo => negB op (a == b)
    | _ => none
  | .hd a, .hd b =>
    match tyOf cx.tys t with
    | some .hd => negB op (a == b)
    | _ => none
  | .s a, .s b =>
    match tyOf cx.tys t with
    | some .str => negB op (a.toList == b.toList)
    | _ => none
  | .pr a b, .pr c d =>
    match tyOf cx.tys t with
    | some (.st _ _ z true) => bif skel (.pr a b) z && skel (.pr c d) z then negB op (eqv (.pr a b) (.pr c d)) else none
    | _ => none
  | _, _ => none
def unV (op : UnOp) (x : SV) : Option SV :=
  match op, x with
  | .not, .b c => some (.b (!c))
  | .neg, .i k n => some (.i k (k.wrap (0 - n)))
  | .xor, .i .u8 n => some (.i .u8 (bits .xor .u8 255 n))
  | _, _ => none
def stepAt (n k : Nat) : List Bool := List.replicate k true ++ (bif k + 1 == n then [] else [false])
def fieldsOf (cx : Ctx) (t : TypeId) : Option (List (Nat × TypeId)) :=
  match tyOf cx.tys t with
  | some (.st fs _ _ _) => some fs
  | _ => none
def tup : SV → Nat → Option SV
  | .tp a _, 0 => some a
  | .tp _ b, k + 1 => tup b k
  | .on _ _, _ => none
  | x, 0 => some x
  | _, _ => none
/-- a header of bytes -/
def ofB (f : Nat → Nat) : Hd := BitVec.ofNat 104 ((List.range 13).foldl (fun acc k => acc * 256 + f k % 256) 0)
/-- byte k is n then -/
def setHb (h : Hd) (k : Nat) (n : Int) : Hd := ofB fun j => bif j == k then n.toNat else hbn h j
/-- a struct's parts, one after another -/
def evalParts (cx : Ctx) (tm : Tm) (fs : List (Nat × TypeId)) : SV → List (Nat × Operand) → Option SV
  | z, [] => some z
  | z, (k, x) :: r => (operand tm x).bind fun v => (fs[k]?).bind fun f => (tyOf cx.tys f.2).bind fun ti => (sub z (stepAt fs.length k)).bind fun y =>
      bif fits ti v && size v == size y && off z (stepAt fs.length k) == f.1 then (upd z (stepAt fs.length k) v).bind fun z' => evalParts cx tm fs z' r else none
/-- a header's bytes, one after another -/
def evalBytes (tm : Tm) : Hd → List (Nat × Operand) → Option (Prop × Hd)
  | h, [] => some (True, h)
  | h, (k, x) :: r => (operand tm x).bind fun v =>
      match v with
      | .i .u8 n => bif Nat.blt k 13 then (evalBytes tm (setHb h k n) r).bind fun y => some ((0 ≤ n ∧ n < 256) ∧ y.1, y.2) else none
      | _ => none
def byteAt (x : ByteArray) (i : Int) : Int := ((x[i.toNat]?.getD 0).toNat : Int)
def strOf (l : List Int) : ByteArray := l.foldl (fun r n => r.push (UInt8.ofNat n.toNat)) ByteArray.empty
def lenS : SV → Int
  | .sl _ l => l.length
  | .s x => x.size
  | _ => 0
def bound (tm : Tm) : Option Operand → Int → Option Int
  | none, d => some d
  | some x, _ => match operand tm x with
    | some (.i _ n) => some n
    | _ => none
def barely : List SV → List SV
  | [] => []
  | x :: r => bare x :: barely r
def atL (e : E) (l : List e.T) (i : Int) : e.T := l.getD i.toNat e.dflt
/-- one operation that changes nothing: what must hold, its value -/
def evalP (cx : Ctx) (tm : Tm) (m : Nat → Ent) (o : Op) : Option (Prop × SV) :=
  match o with
  | .move x | .assign x => (operand tm x).bind fun v => some (True, v)
  | .pick c a b =>
    (operand tm c).bind fun c => (operand tm a).bind fun a => (operand tm b).bind fun b =>
      match c, a, b with
      | .b c, .b x, .b y => some (True, .b (bif c then x else y))
      | .b c, .on c1 (.b x), .b y => some (c = true → c1 = true, .b (bif c then x else y))
      | .b c, .b x, .on c2 (.b y) => some (c = false → c2 = true, .b (bif c then x else y))
      | _, _, _ => none
  | .load t x => (operand tm x).bind fun a => (tyOf cx.tys t).bind fun ti =>
    match a with
    | .p j q o => match m j with
      | .box _ y => (sub y q).bind fun z => bif fits ti z && off y q == o then some (True, z) else none
      | _ => none
    | .pb j q o i => match m j, ti with
      | .box _ y, .int .u8 => match sub y q with
        | some (.hd h) => bif off y q == o then some (0 ≤ i ∧ i < 13, .i .u8 (hb h i)) else none
        | _ => none
      | _, _ => none
    | .rp y => bif fits ti y then some (True, y) else none
    | .rb h i => match ti with
      | .int .u8 => some (0 ≤ i ∧ i < 13, .i .u8 (hb h i))
      | _ => none
    | _ => none
  | .binOp op t x y _ => (operand tm x).bind fun a => (operand tm y).bind fun b => binV cx op t a b
  | .unOp op _ x => (operand tm x).bind fun a => (unV op a).bind fun v => some (True, v)
  | .fieldAddr t x k => (fieldsOf cx t).bind fun fs => (operand tm x).bind fun a => (fs[k]?).bind fun f =>
    match a with
    | .p j q o => some (True, .p j (q ++ stepAt fs.length k) (o + f.1))
    | .rp y => (sub y (stepAt fs.length k)).bind fun z => bif off y (stepAt fs.length k) == f.1 then some (True, .rp z) else none
    | _ => none
  | .field t x k => (fieldsOf cx t).bind fun fs => (operand tm x).bind fun a => (fs[k]?).bind fun f => (tyOf cx.tys f.2).bind fun ti =>
    (sub a (stepAt fs.length k)).bind fun z => bif isPr a && fits ti z && off a (stepAt fs.length k) == f.1 then some (True, z) else none
  | .indexAddr t x i => (operandB tm x).bind fun a => (operand tm i).bind fun iv => (tyOf cx.tys t).bind fun ti =>
    match a, iv, ti with
    | .sl e l, .i _ i, .sl _ e' => bif e == e' then some (0 ≤ i ∧ i < l.length, .rp (e.tree (atL e l i))) else none
    | .p j q o, .i _ i, .hd => some (0 ≤ i ∧ i < 13, .pb j q o i)
    | .rp (.hd h), .i _ i, .hd => some (0 ≤ i ∧ i < 13, .rb h i)
    | _, _, _ => none
  | .index t x i => (operand tm x).bind fun a => (operand tm i).bind fun iv => (tyOf cx.tys t).bind fun ti =>
    match a, iv, ti with
    | .hd h, .i _ i, .hd => some (0 ≤ i ∧ i < 13, .i .u8 (hb h i))
    | .s x, .i _ i, .str => some (0 ≤ i ∧ i < x.size, .i .u8 (byteAt x i))
    | _, _, _ => none
  | .slice t x lo hi none => (operandB tm x).bind fun a => (tyOf cx.tys t).bind fun ti => (bound tm lo 0).bind fun l => (bound tm hi (lenS a)).bind fun h =>
    match a, ti with
    | .sl e r, .sl _ e' => bif e == e' then some (0 ≤ l ∧ l ≤ h ∧ h ≤ r.length, .sl e ((r.take h.toNat).drop l.toNat)) else none
    | .s x, .str => some (0 ≤ l ∧ l ≤ h ∧ h ≤ x.size, .s (x.extract l.toNat h.toNat))
    | _, _ => none
  | .build t ps => (tyOf cx.tys t).bind fun ti =>
    match ti with
    | .st fs _ z _ => (evalParts cx tm fs z ps.toList).bind fun x => bif isPr x then some (True, x) else none
    | .hd => (evalBytes tm 0 ps.toList).bind fun x => some (x.1, .hd x.2)
    | _ => none
  | .extract x k => (operand tm x).bind fun a =>
    match a with
    | .tp _ _ => (tup a k).bind fun z => some (True, z)
    | _ => none
  | .call c =>
    match c.callee with
    | .builtin .len => (operands tm c.args.toList).bind fun vs =>
      match barely vs, c.argTypes.toList with
      | [.sl _ l], [t] => match tyOf cx.tys t with
        | some (.sl _ _) => some (True, .i .i64 l.length)
        | _ => none
      | [.s x], [t] => match tyOf cx.tys t with
        | some .str => some (True, .i .i64 x.size)
        | _ => none
      | _, _ => none
    | .builtin .min => (operands tm c.args.toList).bind fun vs =>
      match vs with
      | [.i k x, .i _ y] => some (True, .i k (bif decide (y < x) then y else x))
      | _ => none
    | .builtin .max => (operands tm c.args.toList).bind fun vs =>
      match vs with
      | [.i k x, .i _ y] => some (True, .i k (bif decide (x < y) then y else x))
      | _ => none
    | _ => none
  | .convert s t x => (operandB tm x).bind fun a => (tyOf cx.tys s).bind fun si => (tyOf cx.tys t).bind fun ti =>
    match a, si, ti with
    | .i _ n, .int _, .int k => some (True, .i k (k.wrap n))
    | .sl .u8 l, .sl _ .u8, .str => some (True, .s (strOf l))
    | _, _, _ => none
  | _ => none
/-! ### the same, locked -/
def binIL (u : Lk) (op : BinOp) (k : IntKind) (a b : Int) : Option (Prop × SV) :=
  match op with
  | .add => some (True, .i k (lk2 u (fun a b => k.wrap (a + b)) a b))
  | .sub => some (True, .i k (lk2 u (fun a b => k.wrap (a - b)) a b))
  | .mul => some (True, .i k (lk2 u (fun a b => k.wrap (a * b)) a b))
  | .quo => some (lq1 u (fun b => b ≠ 0) b, .i k (lk2 u (fun a b => k.wrap (a.tdiv b)) a b))
  | .rem => some (lq1 u (fun b => b ≠ 0) b, .i k (lk2 u (fun a b => a.tmod b) a b))
  | .and => some (True, .i k (lk2 u (fun a b => bits .and k a b) a b))
  | .or => some (True, .i k (lk2 u (fun a b => bits .or k a b) a b))
  | .xor => some (True, .i k (lk2 u (fun a b => bits .xor k a b) a b))
  | .andNot => some (True, .i k (lk2 u (fun a b => bits .andNot k a b) a b))
  | .eql => some (True, .b (lk2 u (fun a b => a == b) a b))
  | .neq => some (True, .b (lk2 u (fun a b => a != b) a b))
  | .lss => some (True, .b (lk2 u (fun a b => decide (a < b)) a b))
  | .leq => some (True, .b (lk2 u (fun a b => decide (a ≤ b)) a b))
  | .gtr => some (True, .b (lk2 u (fun a b => decide (b < a)) a b))
  | .geq => some (True, .b (lk2 u (fun a b => decide (b ≤ a)) a b))
  | _ => none
def shVL (u : Lk) (op : BinOp) (k : IntKind) (a b : Int) : Option (Prop × SV) :=
  match op with
  | .shl => some (lq1 u (fun b => 0 ≤ b) b, .i k (lk2 u (fun a b => k.wrap (a * 2 ^ (min b.toNat k.bits))) a b))
  | .shr => some (lq1 u (fun b => 0 ≤ b) b, .i k (lk2 u (fun a b => a.fdiv (2 ^ (min b.toNat k.bits))) a b))
  | _ => none
def negBL (u : Lk) (op : BinOp) (b : Bool) : Option (Prop × SV) :=
  match op with
  | .eql => some (True, .b b)
  | .neq => some (True, .b (lk1 u (fun b => !b) b))
  | _ => none
def binVL (cx : Ctx) (op : BinOp) (t : TypeId) (x y : SV) : Option (Prop × SV) :=
  match x, y with
  | .i k a, .i k' b =>
    match op with
    | .shl | .shr => shVL cx.u op k a b
    | _ => bif k == k' then binIL cx.u op k a b else none
  | .b a, .b b =>
    match tyOf cx.tys t with
    | some .bo => negBL cx.u op (lk2 cx.u (fun a b => a == b) a b)
    | _ => none
  | .hd a, .hd b =>
    match tyOf cx.tys t with
    | some .hd => negBL cx.u op (lk2 cx.u (fun a b => a == b) a b)
    | _ => none
  | .s a, .s b =>
    match tyOf cx.tys t with
    | some .str => negBL cx.u op (lk2 cx.u (fun a b => a.toList == b.toList) a b)
    | _ => none
  | .pr a b, .pr c d =>
    match tyOf cx.tys t with
    | some (.st _ _ z true) => bif skel (.pr a b) z && skel (.pr c d) z then negBL cx.u op (lk2 cx.u eqv (.pr a b) (.pr c d)) else none
    | _ => none
  | _, _ => none
def unVL (u : Lk) (op : UnOp) (x : SV) : Option SV :=
  match op, x with
  | .not, .b c => some (.b (lk1 u (fun c => !c) c))
  | .neg, .i k n => some (.i k (lk1 u (fun n => k.wrap (0 - n)) n))
  | .xor, .i .u8 n => some (.i .u8 (lk1 u (fun n => bits .xor .u8 255 n) n))
  | _, _ => none
def evalBytesL (u : Lk) (tm : Tm) : Hd → List (Nat × Operand) → Option (Prop × Hd)
  | h, [] => some (True, h)
  | h, (k, x) :: r => (operand tm x).bind fun v =>
      match v with
      | .i .u8 n => bif Nat.blt k 13 then (evalBytesL u tm (lk3 u setHb h k n) r).bind fun y => some (lq1 u (fun n => 0 ≤ n ∧ n < 256) n ∧ y.1, y.2) else none
      | _ => none
/-- an element of a list, part by part -/
def E.treeL (u : Lk) : (e : E) → List e.T → Int → SV
  | .u8, l, i => .i .u8 (lk2 u (fun l i => atL .u8 l i) l i)
  | .int, l, i => .i .i64 (lk2 u (fun l i => atL .int l i) l i)
  | .cube, l, i => .pr (.hd (lk2 u (fun l i => (atL .cube l i).1) l i)) (.hd (lk2 u (fun l i => (atL .cube l i).2) l i))
  | .rule, l, i => .pr (.i .i64 (lk2 u (fun l i => (atL .rule l i).1) l i)) (.pr (.pr (.hd (lk2 u (fun l i => (atL .rule l i).2.1.1) l i)) (.hd (lk2 u (fun l i => (atL .rule l i).2.1.2) l i))) (.i .i64 (lk2 u (fun l i => (atL .rule l i).2.2) l i)))
  | .piece, l, i => .pr (.i .i64 (lk2 u (fun l i => (atL .piece l i).1) l i)) (.i .i64 (lk2 u (fun l i => (atL .piece l i).2) l i))
theorem E.treeL_eq (u : Lk) (e : E) (l : List e.T) (i : Int) : e.treeL u l i = e.tree (atL e l i) := by obtain rfl := Lk.eq_std u; cases e <;> rfl
theorem evalBytesL_eq (u : Lk) (tm : Tm) : ∀ (ps : List (Nat × Operand)) (h : Hd), evalBytesL u tm h ps = evalBytes tm h ps
  | [], _ => rfl
  | (k, x) :: r, h => by
    simp only [evalBytesL, evalBytes]
    have ih := evalBytesL_eq u tm r
    simp only [ih]
    obtain rfl := Lk.eq_std u
    rfl
theorem binIL_eq (u : Lk) (op : BinOp) (k : IntKind) (a b : Int) : binIL u op k a b = binI op k a b := by obtain rfl := Lk.eq_std u; cases op <;> rfl
theorem binVL_eq (cx : Ctx) (op : BinOp) (t : TypeId) (x y : SV) : binVL cx op t x y = binV cx op t x y := by
  obtain ⟨tys, fns, u⟩ := cx
  unfold binVL binV
  simp only [binIL_eq]
  obtain rfl := Lk.eq_std u
  cases x <;> cases y <;> first | rfl | (cases op <;> rfl)
def evalPL (cx : Ctx) (tm : Tm) (m : Nat → Ent) (o : Op) : Option (Prop × SV) :=
  match o with
  | .move x | .assign x => (operand tm x).bind fun v => some (True, v)
  | .pick c a b =>
    (operand tm c).bind fun c => (operand tm a).bind fun a => (operand tm b).bind fun b =>
      match c, a, b with
      | .b c, .b x, .b y => some (True, .b (lk3 cx.u (fun c x y => bif c then x else y) c x y))
      | .b c, .on c1 (.b x), .b y => some (lq2 cx.u (fun (c c1 : Bool) => c = true → c1 = true) c c1, .b (lk3 cx.u (fun c x y => bif c then x else y) c x y))
      | .b c, .b x, .on c2 (.b y) => some (lq2 cx.u (fun (c c2 : Bool) => c = false → c2 = true) c c2, .b (lk3 cx.u (fun c x y => bif c then x else y) c x y))
      | _, _, _ => none
  | .load t x => (operand tm x).bind fun a => (tyOf cx.tys t).bind fun ti =>
    match a with
    | .p j q o => match m j with
      | .box _ y => (sub y q).bind fun z => bif fits ti z && off y q == o then some (True, z) else none
      | _ => none
    | .pb j q o i => match m j, ti with
      | .box _ y, .int .u8 => match sub y q with
        | some (.hd h) => bif off y q == o then some (lq1 cx.u (fun i => 0 ≤ i ∧ i < 13) i, .i .u8 (lk2 cx.u hb h i)) else none
        | _ => none
      | _, _ => none
    | .rp y => bif fits ti y then some (True, y) else none
    | .rb h i => match ti with
      | .int .u8 => some (lq1 cx.u (fun i => 0 ≤ i ∧ i < 13) i, .i .u8 (lk2 cx.u hb h i))
      | _ => none
    | _ => none
  | .binOp op t x y _ => (operand tm x).bind fun a => (operand tm y).bind fun b => binVL cx op t a b
  | .unOp op _ x => (operand tm x).bind fun a => (unVL cx.u op a).bind fun v => some (True, v)
  | .fieldAddr t x k => (fieldsOf cx t).bind fun fs => (operand tm x).bind fun a => (fs[k]?).bind fun f =>
    match a with
    | .p j q o => some (True, .p j (q ++ stepAt fs.length k) (o + f.1))
    | .rp y => (sub y (stepAt fs.length k)).bind fun z => bif off y (stepAt fs.length k) == f.1 then some (True, .rp z) else none
    | _ => none
  | .field t x k => (fieldsOf cx t).bind fun fs => (operand tm x).bind fun a => (fs[k]?).bind fun f => (tyOf cx.tys f.2).bind fun ti =>
    (sub a (stepAt fs.length k)).bind fun z => bif isPr a && fits ti z && off a (stepAt fs.length k) == f.1 then some (True, z) else none
  | .indexAddr t x i => (operandB tm x).bind fun a => (operand tm i).bind fun iv => (tyOf cx.tys t).bind fun ti =>
    match a, iv, ti with
    | .sl e l, .i _ i, .sl _ e' => bif e == e' then some (lq2 cx.u (fun (l : List e.T) (i : Int) => 0 ≤ i ∧ i < l.length) l i, .rp (e.treeL cx.u l i)) else none
    | .p j q o, .i _ i, .hd => some (lq1 cx.u (fun i => 0 ≤ i ∧ i < 13) i, .pb j q o i)
    | .rp (.hd h), .i _ i, .hd => some (lq1 cx.u (fun i => 0 ≤ i ∧ i < 13) i, .rb h i)
    | _, _, _ => none
  | .index t x i => (operand tm x).bind fun a => (operand tm i).bind fun iv => (tyOf cx.tys t).bind fun ti =>
    match a, iv, ti with
    | .hd h, .i _ i, .hd => some (lq1 cx.u (fun i => 0 ≤ i ∧ i < 13) i, .i .u8 (lk2 cx.u hb h i))
    | .s x, .i _ i, .str => some (lq2 cx.u (fun (x : ByteArray) (i : Int) => 0 ≤ i ∧ i < x.size) x i, .i .u8 (lk2 cx.u byteAt x i))
    | _, _, _ => none
  | .slice t x lo hi none => (operandB tm x).bind fun a => (tyOf cx.tys t).bind fun ti => (bound tm lo 0).bind fun l => (bound tm hi (lk1 cx.u lenS a)).bind fun h =>
    match a, ti with
    | .sl e r, .sl _ e' => bif e == e' then some (lq3 cx.u (fun (r : List e.T) (l h : Int) => 0 ≤ l ∧ l ≤ h ∧ h ≤ r.length) r l h, .sl e (lk3 cx.u (fun (r : List e.T) (l h : Int) => (r.take h.toNat).drop l.toNat) r l h)) else none
    | .s x, .str => some (lq3 cx.u (fun (x : ByteArray) (l h : Int) => 0 ≤ l ∧ l ≤ h ∧ h ≤ x.size) x l h, .s (lk3 cx.u (fun (x : ByteArray) (l h : Int) => x.extract l.toNat h.toNat) x l h))
    | _, _ => none
  | .build t ps => (tyOf cx.tys t).bind fun ti =>
    match ti with
    | .st fs _ z _ => (evalParts cx tm fs z ps.toList).bind fun x => bif isPr x then some (True, x) else none
    | .hd => (evalBytesL cx.u tm 0 ps.toList).bind fun x => some (x.1, .hd x.2)
    | _ => none
  | .extract x k => (operand tm x).bind fun a =>
    match a with
    | .tp _ _ => (tup a k).bind fun z => some (True, z)
    | _ => none
  | .call c =>
    match c.callee with
    | .builtin .len => (operands tm c.args.toList).bind fun vs =>
      match barely vs, c.argTypes.toList with
      | [.sl _ l], [t] => match tyOf cx.tys t with
        | some (.sl _ _) => some (True, .i .i64 (lk1 cx.u (fun l => (l.length : Int)) l))
        | _ => none
      | [.s x], [t] => match tyOf cx.tys t with
        | some .str => some (True, .i .i64 (lk1 cx.u (fun (x : ByteArray) => (x.size : Int)) x))
        | _ => none
      | _, _ => none
    | .builtin .min => (operands tm c.args.toList).bind fun vs =>
      match vs with
      | [.i k x, .i _ y] => some (True, .i k (lk2 cx.u (fun x y => bif decide (y < x) then y else x) x y))
      | _ => none
    | .builtin .max => (operands tm c.args.toList).bind fun vs =>
      match vs with
      | [.i k x, .i _ y] => some (True, .i k (lk2 cx.u (fun x y => bif decide (x < y) then y else x) x y))
      | _ => none
    | _ => none
  | .convert s t x => (operandB tm x).bind fun a => (tyOf cx.tys s).bind fun si => (tyOf cx.tys t).bind fun ti =>
    match a, si, ti with
    | .i _ n, .int _, .int k => some (True, .i k (lk1 cx.u (fun n => k.wrap n) n))
    | .sl .u8 l, .sl _ .u8, .str => some (True, .s (lk1 cx.u strOf l))
    | _, _, _ => none
  | _ => none
theorem evalPL_eq (cx : Ctx) (tm : Tm) (m : Nat → Ent) (o : Op) : evalPL cx tm m o = evalP cx tm m o := by
  cases o
  case binOp => simp only [evalPL, evalP, binVL_eq]
  case build => simp only [evalPL, evalP, evalBytesL_eq]
  case slice t x lo hi mx =>
    obtain ⟨tys, fns, u⟩ := cx
    obtain rfl := Lk.eq_std u
    cases mx <;> rfl
  case indexAddr =>
    simp only [evalPL, evalP, E.treeL_eq]
    obtain ⟨tys, fns, u⟩ := cx
    obtain rfl := Lk.eq_std u
    rfl
  all_goals
    obtain ⟨tys, fns, u⟩ := cx
    obtain rfl := Lk.eq_std u
    rfl
/-! ### what the table of types says of the program -/
def Cell1 (P : Program) (t : TypeId) : Prop := ∃ i, P.info? t = some i ∧ i.size = 1
def ZeroIs (P : Program) (t : TypeId) (v : Value) : Prop := ∃ i, P.info? t = some i ∧ i.zero = some v
def Plain (d : TypeDesc) : Prop := (match d with | .struct _ | .array _ _ => true | _ => false) = false
/-- '==' at t is equality of these values -/
def EqAt (P : Program) (t : TypeId) (z : SV) : Prop :=
  ∀ x y, skel x z = true → skel y z = true → ∀ a b w, ((do eqGuard .eql t a b (.agg (flat x).toArray) (.agg (flat y).toArray); binOp .eql t (.agg (flat x).toArray) (.agg (flat y).toArray)) : Sem Value).run P w = .ok (.bool (eqv x y)) w
    ∧ ((do eqGuard .neq t a b (.agg (flat x).toArray) (.agg (flat y).toArray); binOp .neq t (.agg (flat x).toArray) (.agg (flat y).toArray)) : Sem Value).run P w = .ok (.bool (!eqv x y)) w
def TyOK (P : Program) (t : TypeId) : TI → Prop
  | .int k => P.underlying t = some (.int k) ∧ Cell1 P t ∧ ZeroIs P t (.int k 0)
  | .bo => P.underlying t = some .bool ∧ Cell1 P t ∧ ZeroIs P t (.bool false)
  | .str => P.underlying t = some .string ∧ Cell1 P t
  | .sc => (∃ d, P.underlying t = some d ∧ Plain d) ∧ Cell1 P t
  | .hd => ∃ e, P.underlying t = some (.array 13 e) ∧ P.underlying e = some (.int .u8) ∧ Cell1 P e ∧ (∃ i, P.info? t = some i ∧ i.size = 13 ∧ i.zero = some (.agg (hdCells 0).toArray)) ∧ EqAt P t (.hd 0)
  | .st fs sz z eq => ∃ gs, P.underlying t = some (.struct gs) ∧ gs.toList.map (fun f => (f.offset, f.type)) = fs ∧ (∀ f ∈ gs.toList, ∃ i, P.info? f.type = some i ∧ i.size ≠ 0) ∧
      (∃ i, P.info? t = some i ∧ i.size = sz ∧ i.zero = some (.agg (flat z).toArray)) ∧ size z = sz ∧ isPr z = true ∧ skel z z = true ∧ (eq = true → EqAt P t z)
  | .sl et e => P.underlying t = some (.slice et) ∧ (∃ i z, P.info? et = some i ∧ i.size = e.sz ∧ i.zero = some z ∧ z.cells.size = e.sz ∧ i.bytes ≤ 64) ∧ (e = .u8 → P.underlying et = some (.int .u8)) ∧ Cell1 P t
def TysOK (P : Program) (tys : List (TypeId × TI)) : Prop := ∀ t ti, tyOf tys t = some ti → TyOK P t ti
end Mx
