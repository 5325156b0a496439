/- A region that draws its order: whatever the order, what the text's order gives. Own work; any program. -/
import Derived.Test.YtlnofclfpcmneaaXh
namespace Mx
open Go Go.RowKit
structure Info where
  o : Oper
  x : SV
  ef : Option (Nat × Ent)
  rd : Option Nat
def rdV : Option SV → Option Nat
  | some (.p j _ _) | some (.pb j _ _ _) => some j
  | _ => none
/-- the variable that an operation reads, or writes in part -/
def rdK (tm : Tm) : Op → Option Nat
  | .load _ x | .store _ x _ => rdV (operand tm x)
  | .makeFunc _ _ captured => match captured.toList with
    | [x] => rdV (operand tm x)
    | _ => none
  | _ => none
def rdG (tm : Tm) (o : Oper) : Option Nat :=
  match o.guard with
  | none => rdK tm o.op
  | some _ => rdK (useTm (asksT o.op) tm) o.op
def evalD (cx : Ctx) (nt : Nat) (ops : Array Oper) : List Oper → St → Option (Prop × List Info × St)
  | [], st => some (True, [], st)
  | o :: r, st =>
    bif dstOK nt o.dst then
      (evalG cx ops (getT st.tmps) (ent st.mem) o).bind fun y =>
        (evalD cx nt ops r ⟨putT st.tmps o.dst y.2.1, putE st.mem y.2.2⟩).bind fun z =>
          some (y.1 ∧ z.1, ⟨o, y.2.1, y.2.2, rdG (getT st.tmps) o⟩ :: z.2.1, z.2.2)
    else none
def gdst (ops : Array Oper) (g : Option (Nat × Bool)) : List Nat :=
  match g with
  | none => []
  | some (j, _) => match ops[j]? with
    | some o => o.dst.toList
    | none => []
/-- what it reads of the frame -/
def namesG (ops : Array Oper) (o : Oper) : List Nat := gdst ops o.guard ++ tmpsOf o.op.operands.toList
def maskOf (acc : List Nat) (o : Oper) : Nat := o.after.toList.foldl (fun s e => bif Region.binds .any e then s ||| 2 ^ e.on ||| acc.getD e.on 0 else s) 0
def befs : List Nat → List Oper → List Nat
  | acc, [] => acc
  | acc, o :: r => befs (acc ++ [maskOf acc o]) r
def conflT (ops : Array Oper) (a b : Oper) : Bool :=
  (match a.dst with | some d => memB (namesG ops b) d || b.dst == some d | none => false) || (match b.dst with | some d => memB (namesG ops a) d | none => false)
def efk : Option (Nat × Ent) → Option Nat
  | some (k, _) => some k
  | none => none
def mentI (k : Nat) (d : Info) : Bool := ment k d.x || (match d.ef with | some (_, e) => mentE k e | none => false)
def newK (d : Info) : Option Nat := bif isNew d.o.op then d.o.dst else none
def conflM (a b : Info) : Bool :=
  (match efk a.ef with | some k => b.rd == some k || efk b.ef == some k | none => false) || (match efk b.ef with | some k => a.rd == some k | none => false) || (match newK a with | some k => mentI k b | none => false)
/-- static: edges go back, and who shares a temporary stands in an order -/
def chkT (ops : Array Oper) (ms : List Nat) (o : Oper) (j : Nat) : Nat → List Oper → Bool
  | _, [] => true
  | i, a :: r => bif Nat.blt i j then (!conflT ops a o || (ms.getD j 0).testBit i) && chkT ops ms o j (i + 1) r else true
def allT (ops : Array Oper) (ms : List Nat) : Nat → List Oper → Bool
  | _, [] => true
  | j, o :: r => o.after.toList.all (fun e => !Region.binds .any e || Nat.blt e.on j) && chkT ops ms o j 0 ops.toList && allT ops ms (j + 1) r
def drawT (ops : Array Oper) : Bool := allT ops (befs [] ops.toList) 0 ops.toList
def chkM (ms : List Nat) (d : Info) (j : Nat) : Nat → List Info → Bool
  | _, [] => true
  | i, a :: r => bif Nat.blt i j then (!conflM a d || (ms.getD j 0).testBit i) && (match newK d with | some k => !mentI k a | none => true) && chkM ms d j (i + 1) r else true
def allM (ms : List Nat) (ds : List Info) : Nat → List Info → Bool
  | _, [] => true
  | j, d :: r => chkM ms d j 0 ds && allM ms ds (j + 1) r
/-- a region whose operations write nothing wants no look at their order -/
def quietI (d : Info) : Bool := match d.ef, isNew d.o.op with
  | none, false => true
  | _, _ => false
def quietL : List Info → Bool
  | [] => true
  | d :: r => match quietI d with
    | true => quietL r
    | false => false
def checkM (ops : Array Oper) (ds : List Info) : Bool := match quietL ds with
  | true => true
  | false => allM (befs [] ops.toList) ds 0 ds
theorem quietI_spec {d : Info} (h : quietI d = true) : d.ef = none ∧ newK d = none := by
  unfold quietI at h
  split at h
  · rename_i h1 h2
    exact ⟨h1, by simp [newK, h2]⟩
  · cases h
theorem quietL_mem : ∀ {l : List Info}, quietL l = true → ∀ d ∈ l, quietI d = true
  | [], _, d, hd => by cases hd
  | x :: r, h, d, hd => by
    simp only [quietL] at h
    cases hx : quietI x with
    | false => rw [hx] at h; cases h
    | true =>
      rw [hx] at h
      rcases List.mem_cons.1 hd with rfl | hd
      · exact hx
      · exact quietL_mem h d hd
theorem checkM_allM {ops : Array Oper} {ds : List Info} (h : checkM ops ds = true) : allM (befs [] ops.toList) ds 0 ds = true := by
  unfold checkM at h
  cases hq : quietL ds with
  | false => rw [hq] at h; exact h
  | true =>
    generalize befs [] ops.toList = ms
    have hc : ∀ (d : Info) (j : Nat), quietI d = true → ∀ (l : List Info) (i : Nat), (∀ a ∈ l, quietI a = true) → chkM ms d j i l = true := by
      intro d j hd l
      induction l with
      | nil => intro _ _; rfl
      | cons a r ih =>
        intro i ha
        obtain ⟨h1, h2⟩ := quietI_spec hd
        obtain ⟨h3, h4⟩ := quietI_spec (ha a (by simp))
        simp only [chkM, conflM, h1, h2, h3, h4, efk, ih (i + 1) (fun x hx => ha x (by simp [hx]))]
        cases Nat.blt i j <;> rfl
    have hall : ∀ (l : List Info) (j : Nat), (∀ a ∈ l, quietI a = true) → allM ms ds j l = true := by
      intro l
      induction l with
      | nil => intro _ _; rfl
      | cons a r ih =>
        intro j ha
        simp only [allM, hc a j (ha a (by simp)) ds 0 (quietL_mem hq), ih (j + 1) (fun x hx => ha x (by simp [hx])), Bool.and_self]
    exact hall ds 0 (quietL_mem hq)
def purgeAll : List Oper → St → St
  | [], st => st
  | o :: r, st => purgeAll r (purge st o.op o.dst)
/-- THE WORD FOR A REGION THAT DRAWS -/
def drawX (cx : Ctx) (nt : Nat) (ops : Array Oper) (K : Post) (st : St) : Prop :=
  match evalD cx nt ops ops.toList (purgeAll ops.toList st) with
  | some (q, ds, st') => (checkM ops ds = true ∧ q) ∧ K .normal st'
  | none => False
/-! ### the frame and the memory when the operations of a set are done -/
def tmL (L : Nat → Bool) : Nat → List Info → Tm → Tm
  | _, [], tm => tm
  | i, d :: r, tm => tmL L (i + 1) r (bif L i then putF tm d.o.dst d.x else tm)
def meL (L : Nat → Bool) : Nat → List Info → (Nat → Ent) → Nat → Ent
  | _, [], me => me
  | i, d :: r, me => meL L (i + 1) r (bif L i then effect me d.ef else me)
section
variable {L L' : Nat → Bool}
theorem putF_at {tm tm' : Tm} {d : Option Tmp} {x : SV} {t : Nat} (h : tm t = tm' t) : putF tm d x t = putF tm' d x t := by
  cases d with
  | none => exact h
  | some d => simp only [putF]; cases (d == t) <;> simp [h]
theorem putF_ne {tm : Tm} {d : Option Tmp} {x : SV} {t : Nat} (h : d ≠ some t) : putF tm d x t = tm t := by
  cases d with
  | none => rfl
  | some d =>
    have : (d == t) = false := by
      have : d ≠ t := fun e => h (by rw [e])
      simpa using this
    simp [putF, this]
theorem putF_eq {tm : Tm} {x : SV} {t : Nat} : putF tm (some t) x t = some x := by simp [putF]
theorem effect_at {me me' : Nat → Ent} {ef : Option (Nat × Ent)} {k : Nat} (h : me k = me' k) : effect me ef k = effect me' ef k := by
  cases ef with
  | none => exact h
  | some p => obtain ⟨j, e⟩ := p; simp only [effect]; cases (k == j) <;> simp [h]
theorem effect_ne {me : Nat → Ent} {ef : Option (Nat × Ent)} {k : Nat} (h : efk ef ≠ some k) : effect me ef k = me k := by
  cases ef with
  | none => rfl
  | some p =>
    obtain ⟨j, e⟩ := p
    have : (k == j) = false := by
      have : k ≠ j := fun e' => h (by rw [e']; rfl)
      simpa using this
    simp [effect, this]
theorem tmL_congr {t : Nat} : ∀ {ds : List Info} {k : Nat} {tm tm' : Tm}, (∀ i d, ds[i]? = some d → d.o.dst = some t → L (k + i) = L' (k + i)) → tm t = tm' t → tmL L k ds tm t = tmL L' k ds tm' t
  | [], _, _, _, _, h => h
  | d :: r, k, tm, tm', hd, h => by
    simp only [tmL]
    refine tmL_congr (fun i e he ht => by have := hd (i + 1) e (by simpa using he) ht; rwa [show k + (i + 1) = k + 1 + i by omega] at this) ?_
    by_cases hdt : d.o.dst = some t
    · have := hd 0 d rfl hdt
      rw [Nat.add_zero] at this
      rw [this]
      cases L' k
      · exact h
      · exact putF_at h
    · cases L k <;> cases L' k <;> simp only [cond_true, cond_false] <;> first | exact h | (rw [putF_ne hdt, putF_ne hdt]; exact h) | (rw [putF_ne hdt]; exact h)
theorem meL_congr {t : Nat} : ∀ {ds : List Info} {k : Nat} {me me' : Nat → Ent}, (∀ i d, ds[i]? = some d → efk d.ef = some t → L (k + i) = L' (k + i)) → me t = me' t → meL L k ds me t = meL L' k ds me' t
  | [], _, _, _, _, h => h
  | d :: r, k, me, me', hd, h => by
    simp only [meL]
    refine meL_congr (fun i e he ht => by have := hd (i + 1) e (by simpa using he) ht; rwa [show k + (i + 1) = k + 1 + i by omega] at this) ?_
    by_cases hdt : efk d.ef = some t
    · have := hd 0 d rfl hdt
      rw [Nat.add_zero] at this
      rw [this]
      cases L' k
      · exact h
      · exact effect_at h
    · cases L k <;> cases L' k <;> simp only [cond_true, cond_false] <;> first | exact h | (rw [effect_ne hdt, effect_ne hdt]; exact h) | (rw [effect_ne hdt]; exact h)
theorem tmL_false : ∀ (l : List Info) (k : Nat) (tm : Tm), tmL (fun _ => false) k l tm = tm
  | [], _, _ => rfl
  | _ :: l, _, _ => tmL_false l _ _
theorem meL_false : ∀ (l : List Info) (k : Nat) (me : Nat → Ent), meL (fun _ => false) k l me = me
  | [], _, _ => rfl
  | _ :: l, _, _ => meL_false l _ _
theorem tmL_none {t : Nat} {ds : List Info} {k : Nat} {tm : Tm} (h : ∀ i e, ds[i]? = some e → e.o.dst = some t → L (k + i) = false) : tmL L k ds tm t = tm t := by
  have := tmL_congr (L := L) (L' := fun _ => false) (ds := ds) (k := k) (tm := tm) (tm' := tm) (t := t) h rfl
  rwa [tmL_false] at this
theorem meL_none {t : Nat} {ds : List Info} {k : Nat} {me : Nat → Ent} (h : ∀ i e, ds[i]? = some e → efk e.ef = some t → L (k + i) = false) : meL L k ds me t = me t := by
  have := meL_congr (L := L) (L' := fun _ => false) (ds := ds) (k := k) (me := me) (me' := me) (t := t) h rfl
  rwa [meL_false] at this
/-- the last one that is done and writes t -/
theorem tmL_last {t : Nat} {ds : List Info} : ∀ {k j : Nat} {d : Info} {tm : Tm}, ds[j]? = some d → d.o.dst = some t → L (k + j) = true → (∀ i e, j < i → ds[i]? = some e → e.o.dst = some t → L (k + i) = false) → tmL L k ds tm t = some d.x := by
  induction ds with
  | nil => intro k j d tm hj; simp at hj
  | cons d' r ih =>
    intro k j d tm hj ht hL hl
    cases j with
    | zero =>
      simp only [List.getElem?_cons_zero, Option.some.injEq] at hj
      subst hj
      rw [Nat.add_zero] at hL
      simp only [tmL, hL, cond_true, ht]
      rw [tmL_none (fun i e he het => by have := hl (i + 1) e (by omega) (by simpa using he) het; rwa [show k + (i + 1) = k + 1 + i by omega] at this), putF_eq]
    | succ j =>
      simp only [tmL]
      refine ih (by simpa using hj) ht (by rwa [show k + 1 + j = k + (j + 1) by omega]) (fun i e hi he het => ?_)
      have := hl (i + 1) e (by omega) (by simpa using he) het
      rwa [show k + (i + 1) = k + 1 + i by omega] at this
theorem meL_last {t : Nat} {ds : List Info} : ∀ {k j : Nat} {d : Info} {en : Ent} {me : Nat → Ent}, ds[j]? = some d → d.ef = some (t, en) → L (k + j) = true → (∀ i e, j < i → ds[i]? = some e → efk e.ef = some t → L (k + i) = false) → meL L k ds me t = en := by
  induction ds with
  | nil => intro k j d en me hj; simp at hj
  | cons d' r ih =>
    intro k j d en me hj ht hL hl
    cases j with
    | zero =>
      simp only [List.getElem?_cons_zero, Option.some.injEq] at hj
      subst hj
      rw [Nat.add_zero] at hL
      simp only [meL, hL, cond_true, ht]
      rw [meL_none (fun i e he het => by have := hl (i + 1) e (by omega) (by simpa using he) het; rwa [show k + (i + 1) = k + 1 + i by omega] at this)]
      simp [effect]
    | succ j =>
      simp only [meL]
      refine ih (by simpa using hj) ht (by rwa [show k + 1 + j = k + (j + 1) by omega]) (fun i e hi he het => ?_)
      have := hl (i + 1) e (by omega) (by simpa using he) het
      rwa [show k + (i + 1) = k + 1 + i by omega] at this
theorem tmL_shift : ∀ {ds : List Info} {k : Nat} {tm : Tm}, tmL L (k + 1) ds tm = tmL (fun i => L (i + 1)) k ds tm
  | [], _, _ => rfl
  | d :: r, k, tm => by simp only [tmL]; exact tmL_shift (k := k + 1)
theorem meL_shift : ∀ {ds : List Info} {k : Nat} {me : Nat → Ent}, meL L (k + 1) ds me = meL (fun i => L (i + 1)) k ds me
  | [], _, _ => rfl
  | d :: r, k, me => by simp only [meL]; exact meL_shift (k := k + 1)
/-- what an operation reads -/
theorem operands_congr {tm tm' : Tm} : ∀ {l : List Operand}, (∀ x ∈ l, operand tm x = operand tm' x) → operands tm l = operands tm' l
  | [], _ => rfl
  | x :: r, h => by
    simp only [operands]
    rw [h x (by simp), operands_congr (l := r) (fun y hy => h y (by simp [hy]))]
theorem evalParts_congr {cx : Ctx} {tm tm' : Tm} {fs : List (Nat × TypeId)} : ∀ {ps : List (Nat × Operand)} {z : SV}, (∀ p ∈ ps, operand tm p.2 = operand tm' p.2) → evalParts cx tm fs z ps = evalParts cx tm' fs z ps
  | [], _, _ => rfl
  | (k, x) :: r, z, h => by
    simp only [evalParts]
    rw [h (k, x) (by simp)]
    have : ∀ z, evalParts cx tm fs z r = evalParts cx tm' fs z r := fun z => evalParts_congr (fun p hp => h p (by simp [hp]))
    simp only [this]
theorem evalBytes_congr {tm tm' : Tm} : ∀ {ps : List (Nat × Operand)} {z : Hd}, (∀ p ∈ ps, operand tm p.2 = operand tm' p.2) → evalBytes tm z ps = evalBytes tm' z ps
  | [], _, _ => rfl
  | (k, x) :: r, z, h => by
    simp only [evalBytes]
    rw [h (k, x) (by simp)]
    have : ∀ z, evalBytes tm z r = evalBytes tm' z r := fun z => evalBytes_congr (fun p hp => h p (by simp [hp]))
    simp only [this]
theorem bound_congr {tm tm' : Tm} {o : Option Operand} (h : ∀ x, o = some x → operand tm x = operand tm' x) (d : Int) : bound tm o d = bound tm' o d := by
  cases o with
  | none => rfl
  | some x => simp only [bound, h x rfl]
theorem elems_congr {tm tm' : Tm} {e : E} : ∀ {ps : List (Nat × Operand)} {i : Nat}, (∀ p ∈ ps, operand tm p.2 = operand tm' p.2) → elems tm e i ps = elems tm' e i ps
  | [], i, _ => rfl
  | (j, x) :: r, i, h => by
    simp only [elems]
    rw [h (j, x) (by simp), elems_congr (ps := r) (fun p hp => h p (by simp [hp]))]
theorem evalP_congr {cx : Ctx} {tm tm' : Tm} {me me' : Nat → Ent} {o : Op} (h : ∀ x ∈ o.operands.toList, operand tm x = operand tm' x) (hm : ∀ k, rdK tm o = some k → me k = me' k) : evalP cx tm me o = evalP cx tm' me' o := by
  cases o with
  | load t x =>
    have hx := h x (by simp [Op.operands])
    simp only [evalP, ← hx]
    cases hv : operand tm x with
    | none => rfl
    | some v =>
      simp only [rdK, hv] at hm
      simp only [Option.bind_some]
      cases v <;> first | rfl | (simp only [hm _ rfl])
  | build t ps =>
    have hp : ∀ p ∈ ps.toList, operand tm p.2 = operand tm' p.2 := fun p hp => h p.2 (by simp only [Op.operands, List.mem_map]; exact ⟨p, hp, rfl⟩)
    simp only [evalP, evalBytes_congr hp]
    have : ∀ fs z, evalParts cx tm fs z ps.toList = evalParts cx tm' fs z ps.toList := fun fs z => evalParts_congr hp
    simp only [this]
  | call c =>
    have hp : operands tm c.args.toList = operands tm' c.args.toList := operands_congr (fun x hx => h x (by simp [Op.operands, Call.operands]; exact .inr (by simpa using hx)))
    simp only [evalP, hp]
  | move x | assign x => simp only [evalP, h x (by simp [Op.operands])]
  | pick c x y => simp only [evalP, h c (by simp [Op.operands]), h x (by simp [Op.operands]), h y (by simp [Op.operands])]
  | binOp op t x y yt => simp only [evalP, h x (by simp [Op.operands]), h y (by simp [Op.operands])]
  | unOp op t x => simp only [evalP, h x (by simp [Op.operands])]
  | fieldAddr t x k | field t x k => simp only [evalP, h x (by simp [Op.operands])]
  | indexAddr t x i | index t x i => simp only [evalP, operandB, h x (by simp [Op.operands]), h i (by simp [Op.operands])]
  | extract x k => simp only [evalP, h x (by simp [Op.operands])]
  | convert s t x => simp only [evalP, operandB, h x (by simp [Op.operands])]
  | slice t x lo hi mx =>
    cases mx with
    | some _ => rfl
    | none => simp only [evalP, operandB, h x (by simp [Op.operands]), bound_congr (o := lo) (fun y hy => h y (by simp [Op.operands, hy])), bound_congr (o := hi) (fun y hy => h y (by simp [Op.operands, hy]))]
  | _ => rfl
theorem evalO_congr {cx : Ctx} {tm tm' : Tm} {me me' : Nat → Ent} {d : Option Tmp} {o : Op} (h : ∀ x ∈ o.operands.toList, operand tm x = operand tm' x) (hm : ∀ k, rdK tm o = some k → me k = me' k) : evalO cx tm me d o = evalO cx tm' me' d o := by
  rw [evalO_eq, evalO_eq]
  unfold evalO0
  rw [evalP_congr h hm]
  cases hX : isX o with
  | false => rfl
  | true =>
    simp only [cond_true]
    cases o with
    | alloc t => rfl
    | box t x => simp only [evalX, h x (by simp [Op.operands])]
    | store t x y =>
      have hx := h x (by simp [Op.operands])
      simp only [evalX, ← hx, ← h y (by simp [Op.operands])]
      cases hv : operand tm x with
      | none => rfl
      | some v =>
        simp only [rdK, hv] at hm
        simp only [Option.bind_some]
        cases v <;> first | rfl | (simp only [hm _ rfl])
    | call c =>
      have hp : operands tm c.args.toList = operands tm' c.args.toList := operands_congr (fun x hx => h x (by simp [Op.operands, Call.operands]; exact .inr (by simpa using hx)))
      simp only [evalX, hp]
      split
      · rfl
      · rename_i t hcal
        have ht : tm t = tm' t := h (.tmp t) (by simp [Op.operands, Call.operands, hcal])
        rw [ht]
      · rfl
    | makeFunc fn first captured =>
      cases fn with
      | func f =>
        obtain ⟨first⟩ := first
        obtain ⟨captured⟩ := captured
        match first, captured with
        | [], [y] =>
          have hx := h y (by simp [Op.operands])
          simp only [evalX, ← hx]
          cases hv : operand tm y with
          | none => rfl
          | some v =>
            simp only [rdK, hv] at hm
            simp only [Option.bind_some]
            cases v <;> first | rfl | (rename_i j q o; have e := hm j rfl; cases q <;> cases o <;> first | rfl | simp only [e])
        | [], [] => rfl
        | [], _ :: _ :: _ => rfl
        | _ :: _, _ => rfl
      | _ => simp [isX] at hX
    | assign x => simp only [evalX]
    | buildSlice t n ps =>
      have hp : ∀ p ∈ ps.toList, operand tm p.2 = operand tm' p.2 := fun p hp => h p.2 (by simp only [Op.operands, List.mem_map]; exact ⟨p, hp, rfl⟩)
      simp only [evalX, elems_congr hp]
    | makeSlice t x y => simp only [evalX, h x (by simp [Op.operands]), h y (by simp [Op.operands])]
    | _ => simp [isX] at hX
theorem mem_tmpsOf {t : Nat} : ∀ {l : List Operand}, .tmp t ∈ l → memB (tmpsOf l) t = true
  | x :: r, h => by
    rcases List.mem_cons.1 h with rfl | h
    · simp [tmpsOf, memB]
    · have ih := mem_tmpsOf (l := r) h
      cases x with
      | tmp s => simp only [tmpsOf, memB, ih]; cases s == t <;> rfl
      | _ => simp [tmpsOf, ih]
theorem memB_append {l r : List Nat} {t : Nat} : memB (l ++ r) t = (memB l t || memB r t) := by
  induction l with
  | nil => rfl
  | cons x l ih => simp only [List.cons_append, memB, ih]; cases (x == t) <;> simp
theorem operand_congr {tm tm' : Tm} {l : List Nat} (h : ∀ t, memB l t = true → tm t = tm' t) {xs : List Operand} (hl : ∀ t, memB (tmpsOf xs) t = true → memB l t = true) : ∀ x ∈ xs, operand tm x = operand tm' x := by
  intro x hx
  cases x with
  | tmp t => exact h t (hl t (mem_tmpsOf hx))
  | _ => rfl
theorem asks_sub {o : Op} {t : Nat} (h : memB (asksT o) t = true) : memB (tmpsOf o.operands.toList) t = true := by
  cases o with
  | pick c x y =>
    simp only [asksT] at h
    cases c with
    | tmp s =>
      simp only [tmpsOf, memB] at h
      cases hs : (s == t) with
      | true =>
        obtain rfl : s = t := by simpa using hs
        exact mem_tmpsOf (by simp [Op.operands])
      | false => simp [hs] at h
    | _ => simp [tmpsOf, memB] at h
  | _ => exact h
theorem conds_congr {tm tm' : Tm} : ∀ {l : List Nat}, (∀ t, memB l t = true → tm t = tm' t) → conds tm l = conds tm' l
  | [], _ => rfl
  | s :: r, h => by
    simp only [conds]
    rw [h s (by simp [memB]), conds_congr (l := r) (fun t ht => h t (by simp only [memB, ht]; cases (s == t) <;> rfl))]
theorem useTm_congr {tm tm' : Tm} {l : List Nat} {t : Nat} (h : tm t = tm' t) : useTm l tm t = useTm l tm' t := by
  simp only [useTm, h]
theorem evalG_congr {cx : Ctx} {ops : Array Oper} {tm tm' : Tm} {me me' : Nat → Ent} {o : Oper} (h : ∀ t, memB (namesG ops o) t = true → tm t = tm' t) (hm : ∀ k, rdG tm o = some k → me k = me' k) : evalG cx ops tm me o = evalG cx ops tm' me' o := by
  have hn : ∀ t, memB (tmpsOf o.op.operands.toList) t = true → memB (namesG ops o) t = true := fun t ht => by
    unfold namesG; rw [memB_append, ht]; simp
  have hg : guardOf ops tm o.guard = guardOf ops tm' o.guard := by
    unfold guardOf
    cases hgd : o.guard with
    | none => rfl
    | some p =>
      obtain ⟨j, want⟩ := p
      simp only
      cases hj : ops[j]? with
      | none => rfl
      | some oj =>
        cases hd : oj.dst with
        | none => simp [hd]
        | some d =>
          have : tm d = tm' d := h d (by unfold namesG gdst; rw [hgd]; simp only [hj, hd]; rw [memB_append]; simp [memB])
          simp [hd, this]
  unfold evalG
  rw [guardOfL_eq, guardOfL_eq, hg]
  cases hgv : guardOf ops tm' o.guard with
  | none => rfl
  | some g =>
    simp only [Option.bind_some]
    cases g with
    | none =>
      have hno : o.guard = none := by
        cases hgd : o.guard with
        | none => rfl
        | some p =>
          exfalso
          obtain ⟨j, want⟩ := p
          rw [hgd] at hgv
          simp only [guardOf, Option.bind_eq_some_iff] at hgv
          obtain ⟨oj, _, d, _, v, _, hv⟩ := hgv
          split at hv <;> simp at hv
      refine evalO_congr (operand_congr h hn) (fun k hk => hm k ?_)
      unfold rdG; rw [hno]; exact hk
    | some c =>
      have hyes : ∃ p, o.guard = some p := by
        cases hgd : o.guard with
        | none => rw [hgd] at hgv; simp [guardOf] at hgv
        | some p => exact ⟨p, rfl⟩
      obtain ⟨p, hp⟩ := hyes
      simp only
      rw [conds_congr (tm := tm) (tm' := tm') (fun t ht => h t (hn t (asks_sub ht)))]
      have : evalO cx (useTm (asksT o.op) tm) me o.dst o.op = evalO cx (useTm (asksT o.op) tm') me' o.dst o.op := by
        refine evalO_congr (operand_congr (l := namesG ops o) (fun t ht => useTm_congr (h t ht)) hn) (fun k hk => hm k ?_)
        unfold rdG; rw [hp]; exact hk
      rw [this]
end
end Mx
