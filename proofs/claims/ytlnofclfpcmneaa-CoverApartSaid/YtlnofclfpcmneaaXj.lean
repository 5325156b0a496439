/- A region that draws its order: what drawX says of the machine. Own work; any program. -/
import Derived.Test.YtlnofclfpcmneaaXi
import Derived.Test.YtlnofclfpcmneaaXh
namespace Mx
open Go Go.RowKit
section
variable {P : Program} {cx : Ctx} {nt : Nat} {w0 : World} {ok0 ok : Nat → Nat → Prop} {V : Env} {tm : Tm} {me : Nat → Ent} {a : Act} {w : World}
theorem Rep.drew (R : Rep nt w0 ok0 ok V tm me a w) : Rep nt w0 ok0 ok V tm me a { w with drawn := w.drawn + 1 } := by
  have hK : Keeps ok ok w { w with drawn := w.drawn + 1 } := .of_heap (fun _ _ h => h) fun _ _ _ => rfl
  exact ⟨R.defers, R.size, fun t x h => (R.tmps t x h).keep hK Same.refl, fun j => (R.mem j).keep hK ⟨rfl, rfl⟩ (fun _ _ => ⟨rfl, rfl⟩) (fun _ _ => rfl), R.apart, R.mine, R.oks, R.ok0,
    R.below.trans ⟨rfl, rfl, rfl, Nat.le_refl _, fun _ _ => rfl⟩, R.vals⟩
theorem purge_no {st : St} {o : Op} {d : Option Tmp} {k : Nat} (h : NoMent k (getT st.tmps) (ent st.mem)) : NoMent k (getT (purge st o d).tmps) (ent (purge st o d).mem) := by
  unfold purge
  cases hN : isNew o with
  | false => cases d <;> exact h
  | true =>
    cases d with
    | none => exact h
    | some k' =>
      refine ⟨fun t x ht => ?_, fun j => ?_⟩
      · simp only at ht
        rw [getT_purge] at ht
        obtain ⟨y, hy, rfl⟩ := Option.map_eq_some_iff.1 ht
        have hy' := h.1 t y hy
        rcases purgeV_or k' y with e | e | ⟨j, e⟩
        · rw [e]; exact hy'
        · rw [e]; rfl
        · rw [e] at hy'
          simp only [ment, Bool.or_eq_false_iff] at hy'
          exact hy'.2
      · simp only
        rw [ent_purge]
        cases mentE k' (ent st.mem j)
        · exact h.2 j
        · rfl
theorem purgeAll_rep : ∀ {l : List Oper} {st : St}, Rep nt w0 ok0 ok V (getT st.tmps) (ent st.mem) a w → Rep nt w0 ok0 ok V (getT (purgeAll l st).tmps) (ent (purgeAll l st).mem) a w
  | [], _, R => R
  | o :: l, st, R => purgeAll_rep (l := l) (st := purge st o.op o.dst) (purge_rep R o.op o.dst)
theorem purgeAll_no {k : Nat} : ∀ {l : List Oper} {st : St}, NoMent k (getT st.tmps) (ent st.mem) → NoMent k (getT (purgeAll l st).tmps) (ent (purgeAll l st).mem)
  | [], _, h => h
  | o :: l, st, h => purgeAll_no (l := l) (st := purge st o.op o.dst) (purge_no h)
theorem purgeAll_noMent {k : Nat} {o : Oper} (hN : isNew o.op = true) (hd : o.dst = some k) : ∀ {l : List Oper} {st : St}, o ∈ l → NoMent k (getT (purgeAll l st).tmps) (ent (purgeAll l st).mem) := by
  intro l
  induction l with
  | nil => intro st hm; cases hm
  | cons b l ih =>
    intro st hm
    simp only [purgeAll]
    rcases List.mem_cons.1 hm with rfl | hm
    · rw [hd]; exact purgeAll_no (purge_noMent hN)
    · exact ih hm
theorem mentI_false {k : Nat} {d : Info} (h : mentI k d = false) : ment k d.x = false ∧ ∀ j e, d.ef = some (j, e) → mentE k e = false := by
  unfold mentI at h
  simp only [Bool.or_eq_false_iff] at h
  refine ⟨h.1, fun j e he => ?_⟩
  have := h.2
  rw [he] at this
  exact this
/-- what must hold while the operations of L are done -/
structure Doing (ops : Array Oper) (listed : Array Bool) : Prop where
  size : listed.size = ops.size
  back : ∀ j o, ops[j]? = some o → listed.getD j false = true → ∀ e ∈ o.after, Region.binds .any e = true → listed.getD e.on false = true
theorem mem_ready' {ops : Array Oper} {listed : Array Bool} {i : Nat} (h : i ∈ Region.ready .any ops listed) : listed.getD i true = false ∧ ∃ o, ops[i]? = some o ∧ ∀ e ∈ o.after, Region.binds .any e = true → listed.getD e.on false = true := by
  unfold Region.ready at h
  simp only [List.mem_filter, List.mem_range, Bool.and_eq_true, Bool.not_eq_true'] at h
  obtain ⟨hi, h1, h2⟩ := h
  have ho : ops[i]? = some ops[i] := Array.getElem?_eq_getElem hi
  refine ⟨h1, ops[i], ho, fun e he hb => ?_⟩
  rw [ho] at h2
  simp only [Option.map_some, Option.getD_some] at h2
  have := Array.all_eq_true'.1 h2 e he
  simpa [hb] using this
theorem ready_nil {ops : Array Oper} {listed : Array Bool} (hT : drawT ops = true) (hs : listed.size = ops.size) (h : Region.ready .any ops listed = []) : ∀ i, i < ops.size → listed.getD i false = true := by
  intro i
  induction i using Nat.strongRecOn with
  | _ i ih =>
    intro hi
    have hl : listed[i]? = some listed[i] := Array.getElem?_eq_getElem (by omega)
    cases hv : listed[i] with
    | true => rw [Array.getD_eq_getD_getElem?, hl, hv]; rfl
    | false =>
      exfalso
      have ho : ops[i]? = some ops[i] := Array.getElem?_eq_getElem hi
      have : i ∈ Region.ready .any ops listed := by
        unfold Region.ready
        simp only [List.mem_filter, List.mem_range, Bool.and_eq_true, Bool.not_eq_true']
        refine ⟨hi, by rw [Array.getD_eq_getD_getElem?, hl, hv]; rfl, ?_⟩
        rw [ho]
        simp only [Option.map_some, Option.getD_some]
        refine Array.all_eq_true'.2 fun e he => ?_
        cases hb : Region.binds .any e with
        | false => rfl
        | true =>
          have := (allT_spec hT i ops[i] (by simp)).1 e he hb
          rw [ih e.on (by omega) (by omega)]; rfl
      rw [h] at this
      cases this
theorem count_set {l : Array Bool} {i n : Nat} (hi : l.getD i true = false) (h : l.toList.count false = n + 1) : (l.setIfInBounds i true).toList.count false = n := by
  have hlt : i < l.size := by
    rw [Array.getD_eq_getD_getElem?] at hi
    cases h : l[i]? with
    | none => rw [h] at hi; cases hi
    | some v => exact (Array.getElem?_eq_some_iff.1 h).1
  have hv : l[i] = false := by
    rw [Array.getD_eq_getD_getElem?, Array.getElem?_eq_getElem hlt] at hi
    exact hi
  rw [Array.toList_setIfInBounds, List.count_set (by simpa using hlt)]
  simp [hv, h]
theorem getD_set {l : Array Bool} {i j : Nat} (hi : i < l.size) : (l.setIfInBounds i true).getD j false = bif j == i then true else l.getD j false := by
  cases hj : (j == i) with
  | true =>
    obtain rfl : j = i := by simpa using hj
    rw [Array.getD_eq_getD_getElem?, Array.getElem?_setIfInBounds_self_of_lt hi]; rfl
  | false =>
    have : i ≠ j := fun e => by subst e; simp at hj
    rw [Array.getD_eq_getD_getElem?, Array.getElem?_setIfInBounds_ne this, ← Array.getD_eq_getD_getElem?]; rfl
theorem drawX_means (C : TysOK P cx.tys) (G : FnsOK P cx.fns) (hm : P.follows .mixedOrders = true) {ops : Array Oper} {K : Post} {st : St} {id : Nat} (hT : drawT ops = true) (h : drawX cx nt ops K st) :
    Means P nt w0 ok0 (.region id ops true) K st := by
  unfold drawX at h
  split at h
  case h_2 => exact h.elim
  rename_i q ds st' he
  obtain ⟨⟨hM, hq⟩, hK⟩ := h
  have hM := checkM_allM hM
  intro ok V a w Q R hQ
  obtain ⟨hlen, ht', hm', hds⟩ := evalD_spec he
  have R1 := (purgeAll_rep (l := ops.toList) R).drew
  generalize hst0 : purgeAll ops.toList st = st0 at *
  have hget : ∀ (i : Nat) (o : Oper), ops[i]? = some o → ∃ d : Info, ds[i]? = some d ∧ d.o = o := by
    intro i o ho
    have hlt : i < ds.length := by rw [hlen]; have := (Array.getElem?_eq_some_iff.1 ho).1; simpa using this
    refine ⟨ds[i], List.getElem?_eq_getElem hlt, ?_⟩
    have := (hds i _ (List.getElem?_eq_getElem hlt)).1
    rw [Array.getElem?_toList, ho] at this
    exact (Option.some.inj this).symm
  have hops : ∀ (i : Nat) (d : Info), ds[i]? = some d → ops[i]? = some d.o := fun i d hd => by
    have := (hds i d hd).1
    rwa [Array.getElem?_toList] at this
  refine wp_region_any hm ?_
  suffices H : ∀ n (listed : Array Bool) ok V a w, Doing ops listed → listed.toList.count false = n → Rep nt w0 ok0 ok V (tmL (fun i => listed.getD i false) 0 ds (getT st0.tmps)) (meL (fun i => listed.getD i false) 0 ds (ent st0.mem)) a w → wpAny P .any ops Q n listed a w by
    refine H ops.size _ ok V a _ ⟨by simp, fun j o ho hj => ?_⟩ (by simp) ?_
    · simp [Array.getD_eq_getD_getElem?, Array.getElem?_replicate] at hj
      split at hj <;> simp at hj
    · have : (fun i => (Array.replicate ops.size false).getD i false) = fun _ => false := by
        funext i
        simp [Array.getD_eq_getD_getElem?, Array.getElem?_replicate]
        split <;> rfl
      rw [this, tmL_false, meL_false]
      exact R1
  have hend : ∀ (listed : Array Bool) ok V a w, Doing ops listed → Rep nt w0 ok0 ok V (tmL (fun i => listed.getD i false) 0 ds (getT st0.tmps)) (meL (fun i => listed.getD i false) 0 ds (ent st0.mem)) a w → Region.ready .any ops listed = [] → Q .normal a w := by
    intro listed ok V a w hDo R hr
    have hall := ready_nil hT hDo.size hr
    have hin : ∀ (i : Nat) (d : Info), ds[i]? = some d → (fun i => listed.getD i false) (0 + i) = (fun _ => true) (0 + i) := fun i d hd => by
      have := (Array.getElem?_eq_some_iff.1 (hops i d hd)).1
      simpa using hall i this
    refine hQ _ st' ok V a w hK ?_
    rw [ht', hm']
    have e1 : tmL (fun i => listed.getD i false) 0 ds (getT st0.tmps) = tmL (fun _ => true) 0 ds (getT st0.tmps) := funext fun t => tmL_congr (fun i d hd _ => hin i d hd) rfl
    have e2 : meL (fun i => listed.getD i false) 0 ds (ent st0.mem) = meL (fun _ => true) 0 ds (ent st0.mem) := funext fun t => meL_congr (fun i d hd _ => hin i d hd) rfl
    rw [← e1, ← e2]
    exact R
  intro n
  induction n with
  | zero =>
    intro listed ok V a w hDo hc R
    have hr : Region.ready .any ops listed = [] := by
      cases hr : Region.ready .any ops listed with
      | nil => rfl
      | cons i r =>
        exfalso
        obtain ⟨h1, o, ho, _⟩ := mem_ready' (by rw [hr]; exact List.mem_cons_self : i ∈ Region.ready .any ops listed)
        have hlt := (Array.getElem?_eq_some_iff.1 ho).1
        have : false ∈ listed.toList := by
          rw [Array.getD_eq_getD_getElem?, Array.getElem?_eq_getElem (by rw [hDo.size]; exact hlt)] at h1
          simp only [Option.getD_some] at h1
          rw [← h1]
          exact Array.getElem_mem_toList _
        have := List.count_pos_iff.2 this
        omega
    exact ⟨hr, hend listed ok V a w hDo R hr⟩
  | succ n ih =>
    intro listed ok V a w hDo hc R
    refine ⟨hend listed ok V a w hDo R, fun i hi => ?_⟩
    obtain ⟨hi1, o, ho, hie⟩ := mem_ready' hi
    have hlt : i < ops.size := (Array.getElem?_eq_some_iff.1 ho).1
    have hlt' : i < listed.size := by rw [hDo.size]; exact hlt
    have hi0 : listed.getD i false = false := by
      rw [Array.getD_eq_getD_getElem?, Array.getElem?_eq_getElem hlt'] at hi1 ⊢
      exact hi1
    obtain ⟨d, hd, rfl⟩ := hget i o ho
    obtain ⟨_, hdst, hrd, qj, hqj, hev⟩ := hds i d hd
    -- done before, or not after
    have hbef : ∀ (i' : Nat) (a' : Oper), ops[i']? = some a' → i' < i → conflT ops a' d.o = true → listed.getD i' false = true := fun i' a' ha' hl hcf => by
      have := chkT_spec (allT_spec hT i d.o (by simpa using ho)).2 i' a' (by simpa using ha') (by omega) hcf
      rw [Nat.zero_add, Nat.zero_add] at this
      exact before_done hT hDo.back i d.o ho hie i' this
    have haft : ∀ (i' : Nat) (a' : Oper), ops[i']? = some a' → i < i' → conflT ops d.o a' = true → listed.getD i' false = false := fun i' a' ha' hl hcf => by
      cases hv : listed.getD i' false with
      | false => rfl
      | true =>
        have := chkT_spec (allT_spec hT i' a' (by simpa using ha')).2 i d.o (by simpa using ho) (by omega) hcf
        rw [Nat.zero_add, Nat.zero_add] at this
        rw [before_done hT hDo.back i' a' ha' (hDo.back i' a' ha' hv) i this] at hi0
        cases hi0
    have hbefM : ∀ (i' : Nat) (d' : Info), ds[i']? = some d' → i' < i → conflM d' d = true → listed.getD i' false = true := fun i' d' hd' hl hcf => by
      have := (chkM_spec (allM_spec hM i d hd) i' d' hd' (by omega)).1 hcf
      rw [Nat.zero_add, Nat.zero_add] at this
      exact before_done hT hDo.back i d.o ho hie i' this
    have haftM : ∀ (i' : Nat) (d' : Info), ds[i']? = some d' → i < i' → conflM d d' = true → listed.getD i' false = false := fun i' d' hd' hl hcf => by
      cases hv : listed.getD i' false with
      | false => rfl
      | true =>
        have := (chkM_spec (allM_spec hM i' d' hd') i d hd (by omega)).1 hcf
        rw [Nat.zero_add, Nat.zero_add] at this
        rw [before_done hT hDo.back i' d'.o (hops i' d' hd') (hDo.back i' d'.o (hops i' d' hd') hv) i this] at hi0
        cases hi0
    have hev' : evalG cx ops (tmL (fun i => listed.getD i false) 0 ds (getT st0.tmps)) (meL (fun i => listed.getD i false) 0 ds (ent st0.mem)) d.o = some (qj, d.x, d.ef) := by
      rw [← hev]
      refine (evalG_congr (fun t ht => tmL_congr (fun i' d' hd' hdt => ?_) rfl) (fun k hk => meL_congr (fun i' d' hd' hdt => ?_) rfl)).symm
      · simp only [Nat.zero_add]
        have ho' := hops i' d' hd'
        rcases Nat.lt_trichotomy i' i with hl | rfl | hl
        · rw [hbef i' d'.o ho' hl (by unfold conflT; rw [hdt]; simp [ht])]; simpa using hl
        · rw [hi0]; simp
        · rw [haft i' d'.o ho' hl (by unfold conflT; simp only [hdt]; simp [ht])]; simp; omega
      · simp only [Nat.zero_add]
        rw [← hrd] at hk
        rcases Nat.lt_trichotomy i' i with hl | rfl | hl
        · rw [hbefM i' d' hd' hl (by unfold conflM; rw [hdt, hk]; simp)]; simpa using hl
        · rw [hi0]; simp
        · rw [haftM i' d' hd' hl (by unfold conflM; rw [hdt, hk]; simp)]; simp; omega
    have hno : isNew d.o.op = true → ∀ k, d.o.dst = some k → NoMent k (tmL (fun i => listed.getD i false) 0 ds (getT st0.tmps)) (meL (fun i => listed.getD i false) 0 ds (ent st0.mem)) := by
      intro hN k hk
      have h0 : NoMent k (getT st0.tmps) (ent st0.mem) := by
        rw [← hst0]
        exact purgeAll_noMent hN hk (List.mem_of_getElem? (l := ops.toList) (i := i) (by simpa using ho))
      have hnk : newK d = some k := by simp [newK, hN, hk]
      have hI : ∀ (i' : Nat) (d' : Info), ds[i']? = some d' → listed.getD i' false = true → mentI k d' = false := fun i' d' hd' hL => by
        rcases Nat.lt_trichotomy i' i with hl | rfl | hl
        · exact (chkM_spec (allM_spec hM i d hd) i' d' hd' (by omega)).2 k hnk
        · rw [hi0] at hL; cases hL
        · cases hmI : mentI k d' with
          | false => rfl
          | true =>
            rw [haftM i' d' hd' hl (by unfold conflM; rw [hnk]; simp [hmI])] at hL
            cases hL
      refine ⟨fun t x hx => ?_, fun j => ?_⟩
      · rcases tmL_val hx with hx | ⟨i', d', h1, h2, rfl⟩
        · exact h0.1 t x hx
        · exact (mentI_false (hI i' d' h1 (by simpa using h2))).1
      · rcases meL_val (L := fun i => listed.getD i false) (j := j) (ds := ds) (k := 0) (me := ent st0.mem) with hx | ⟨i', d', h1, h2, h3⟩
        · rw [hx]; exact h0.2 j
        · exact (mentI_false (hI i' d' h1 (by simpa using h2))).2 j _ h3
    have hDo' : Doing ops (listed.setIfInBounds i true) := by
      refine ⟨by simp [hDo.size], fun j o hj hL e he hb => ?_⟩
      rw [getD_set hlt'] at hL ⊢
      cases hji : (j == i) with
      | true =>
        obtain rfl : j = i := by simpa using hji
        rw [ho] at hj
        obtain rfl := Option.some.inj hj
        rw [hie e he hb]; simp
      | false =>
        rw [hji] at hL
        rw [hDo.back j o hj hL e he hb]; simp
    have hstep : ∀ ok' V' v w', Rep nt w0 ok0 ok' V' (tmL (fun i => listed.getD i false) 0 ds (getT st0.tmps)) (effect (meL (fun i => listed.getD i false) 0 ds (ent st0.mem)) d.ef) a w' → relV ok' w' V' d.x v → wpAny P .any ops Q n (listed.setIfInBounds i true) (a.put d.o.dst v) w' := by
      intro ok' V' v w' R' hv
      refine ih _ ok' V' _ _ hDo' (count_set hi1 hc) ?_
      have R2 := R'.put hdst hv
      have e1 : tmL (fun j => (listed.setIfInBounds i true).getD j false) 0 ds (getT st0.tmps) = putF (tmL (fun i => listed.getD i false) 0 ds (getT st0.tmps)) d.o.dst d.x := by
        funext t
        by_cases hdt : d.o.dst = some t
        · rw [hdt, putF_eq]
          refine tmL_last hd hdt (by rw [getD_set hlt']; simp) fun i' d' hl hd' hdt' => ?_
          rw [Nat.zero_add, getD_set hlt']
          have : (i' == i) = false := by simp; omega
          rw [this]
          exact haft i' d'.o (hops i' d' hd') hl (by unfold conflT; rw [hdt, hdt']; simp)
        · rw [putF_ne hdt]
          refine tmL_congr (fun i' d' hd' hdt' => ?_) rfl
          rw [getD_set hlt']
          have : (0 + i' == i) = false := by
            cases hii : (0 + i' == i) with
            | false => rfl
            | true =>
              obtain rfl : i' = i := by simpa using hii
              rw [hd] at hd'
              obtain rfl := Option.some.inj hd'
              exact (hdt hdt').elim
          rw [this]; rfl
      have e2 : meL (fun j => (listed.setIfInBounds i true).getD j false) 0 ds (ent st0.mem) = effect (meL (fun i => listed.getD i false) 0 ds (ent st0.mem)) d.ef := by
        funext t
        by_cases hdt : efk d.ef = some t
        · cases hef : d.ef with
          | none => rw [hef] at hdt; cases hdt
          | some p =>
            obtain ⟨k, en⟩ := p
            rw [hef] at hdt
            obtain rfl : k = t := by simpa [efk] using hdt
            have : effect (meL (fun i => listed.getD i false) 0 ds (ent st0.mem)) (some (k, en)) k = en := by simp [effect]
            rw [this]
            refine meL_last hd hef (by rw [getD_set hlt']; simp) fun i' d' hl hd' hdt' => ?_
            rw [Nat.zero_add, getD_set hlt']
            have : (i' == i) = false := by simp; omega
            rw [this]
            exact haftM i' d' hd' hl (by unfold conflM; rw [hef, hdt']; simp [efk])
        · rw [effect_ne hdt]
          refine meL_congr (fun i' d' hd' hdt' => ?_) rfl
          rw [getD_set hlt']
          have : (0 + i' == i) = false := by
            cases hii : (0 + i' == i) with
            | false => rfl
            | true =>
              obtain rfl : i' = i := by simpa using hii
              rw [hd] at hd'
              obtain rfl := Option.some.inj hd'
              exact (hdt hdt').elim
          rw [this]; rfl
      rw [e1, e2]
      exact R2
    have hw := evalG_wp C G R hev' (hqj hq) hno (Q := Q) hstep
    unfold wpOp
    rw [ho]
    simp only
    split
    · rename_i hwt; rw [if_pos hwt] at hw; exact .inl hw
    · rename_i hwt; rw [if_neg hwt] at hw; exact hw
end
end Mx
