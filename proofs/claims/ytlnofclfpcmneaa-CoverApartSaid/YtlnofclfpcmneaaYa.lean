/- The frame: headers and cubes as arguments. Own work; any program. -/
import Derived.Test.YtlnofclfpcmneaaXd
import Derived.OpenShut
import Derived.Below
import Derived.ChangeSame
namespace Mx
open Go Go.RowKit Go.WideShapes Go.ChangeShapes
section
variable {H : Type} {enc : TypeId × Value → H} {P : Program} {w : World} {base : Nat} {spare : Nat → Bool} {held : Bool} {fuel : Nat} {t e : TypeId} {cs : List Value} {x : DataW H × List MemPlace}
def hdDatum {H : Type} (y : Hd) : DataW H := .agg ((List.range 13).map fun k => .lit (.int .u8 (hbn y k)))
theorem trod_hd (hu : P.underlying t = some (.array 13 e)) (he : P.underlying e = some (.int .u8)) (hc : P.cellsOf e = 1) (ht : P.cellsOf t = 13)
    (h : DataW.trod enc P w base spare held fuel t cs = some x) : ∃ y : Hd, cs = hdCells y ∧ x = (hdDatum y, []) := by
  obtain ⟨xs, m, _, rfl, hl, hxl, hx⟩ := DataW.trod_array hu h
  rw [ht] at hl
  have hi : ∀ i, i < 13 → ∃ n : Int, cs[i]? = some (.int .u8 n) ∧ xs[i]? = some (.lit (.int .u8 n), []) ∧ 0 ≤ n ∧ n < 256 := by
    intro i hi
    have h1 := hx i hi
    rw [hc, Nat.mul_one] at h1
    have hxi : xs[i]? = some xs[i] := List.getElem?_eq_getElem (by omega)
    rw [hxi] at h1
    obtain ⟨n, h2, h3, h4⟩ := DataW.trod_int he h1
    refine ⟨n, ?_, by rw [hxi, h3], ?_⟩
    · have := congrArg (fun l => l[0]?) h2
      simpa using this
    · have := bounds_u8 h4
      omega
  let f : Nat → Nat := fun i => match cs[i]? with | some (.int _ n) => n.toNat | _ => 0
  have hf : ∀ i, i < 13 → cs[i]? = some (.int .u8 (hbn (ofB f) i)) ∧ xs[i]? = some (.lit (.int .u8 (hbn (ofB f) i)), []) := by
    intro i hlt
    obtain ⟨n, h1, h2, h3, h4⟩ := hi i hlt
    have : (hbn (ofB f) i : Int) = n := by
      rw [hbn_ofB f i hlt]
      have : f i = n.toNat := by simp only [f, h1]
      rw [this]; omega
    rw [this]
    exact ⟨h1, h2⟩
  refine ⟨ofB f, ?_, ?_⟩
  · apply List.ext_getElem?
    intro i
    by_cases hlt : i < 13
    · rw [(hf i hlt).1, List.getElem?_eq_getElem (by rw [hdCells_length]; exact hlt), hdCells_get _ _ hlt]
    · rw [List.getElem?_eq_none (by omega), List.getElem?_eq_none (by rw [hdCells_length]; omega)]
  · have hxs : xs = (List.range 13).map fun k => (.lit (.int .u8 (hbn (ofB f) k)), []) := by
      apply List.ext_getElem?
      intro i
      by_cases hlt : i < 13
      · rw [(hf i hlt).2]; simp [List.getElem?_range hlt]
      · rw [List.getElem?_eq_none (by omega), List.getElem?_eq_none (by simp; omega)]
    rw [hxs]
    simp [hdDatum, Function.comp_def]
theorem trod_array_mk {n m : Nat} {xs : List (DataW H × List MemPlace)} (hu : P.underlying t = some (.array n e)) (hl : cs.length = P.cellsOf t)
    (hp : (List.range n).mapM (fun i => DataW.trod enc P w base spare held m e ((cs.drop (i * P.cellsOf e)).take (P.cellsOf e))) = some xs) :
    DataW.trod enc P w base spare held (m + 1) t cs = some (.agg (xs.map (·.1)), xs.flatMap (·.2)) := by
  unfold DataW.trod
  rw [hu]
  split <;> simp_all
theorem mapM_of {α β : Type} {g : α → Option β} {f : α → β} : ∀ {l : List α}, (∀ a ∈ l, g a = some (f a)) → l.mapM g = some (l.map f)
  | [], _ => rfl
  | a :: l, h => by
    rw [List.mapM_cons, h a (by simp), mapM_of (l := l) (fun b hb => h b (by simp [hb]))]
    rfl
theorem trod_hd_mk (hu : P.underlying t = some (.array 13 e)) (he : P.underlying e = some (.int .u8)) (hc : P.cellsOf e = 1) (ht : P.cellsOf t = 13) (m : Nat) (y : Hd) :
    DataW.trod enc P w base spare held (m + 2) t (hdCells y) = some (hdDatum y, []) := by
  have h := trod_array_mk (enc := enc) (w := w) (base := base) (spare := spare) (held := held) (m := m + 1) (cs := hdCells y) (xs := (List.range 13).map fun k => (.lit (.int .u8 (hbn y k)), [])) hu (by rw [hdCells_length, ht])
    (mapM_of fun i hi => by
      have hlt : i < 13 := List.mem_range.1 hi
      rw [hc, Nat.mul_one, List.drop_eq_getElem_cons (by rw [hdCells_length]; exact hlt), hdCells_get _ _ hlt]
      exact trod_int_mk m he (by
        have := hbn_lt y i
        simp [Lit.wf, IntKind.min, IntKind.max, IntKind.signed, IntKind.bits]
        omega))
  rw [h]
  simp [hdDatum, Function.comp_def]
/-- a header as an argument -/
theorem open_hd {v : Value} {d : DataW H} {p : List MemPlace} (hu : P.underlying t = some (.array 13 e)) (he : P.underlying e = some (.int .u8)) (hc : P.cellsOf e = 1) (ht : P.cellsOf t = 13)
    (hv : ∃ cs, v = .agg cs) (h : DataW.Trod enc P w base spare held t v d p) : ∃ y : Hd, v = .agg (hdCells y).toArray ∧ d = hdDatum y ∧ p = [] := by
  obtain ⟨cs, rfl⟩ := hv
  obtain ⟨fuel, hf⟩ := h
  obtain ⟨y, h1, h2⟩ := trod_hd hu he hc ht hf
  simp only [Value.cells] at h1
  simp only [Prod.mk.injEq] at h2
  exact ⟨y, by rw [← h1], h2.1, h2.2⟩
theorem shut_hd (hu : P.underlying t = some (.array 13 e)) (he : P.underlying e = some (.int .u8)) (hc : P.cellsOf e = 1) (ht : P.cellsOf t = 13) (y : Hd) : DataW.Trod enc P w base spare held t (.agg (hdCells y).toArray) (hdDatum y) [] :=
  ⟨2, trod_hd_mk hu he hc ht 0 y⟩
def cubeDatum {H : Type} (c : Cu) : DataW H := .agg [hdDatum c.1, hdDatum c.2]
theorem open_cube {u : TypeId} {f0 f1 : Field} {v : Value} {d : DataW H} {p : List MemPlace} (hs : P.underlying t = some (.struct #[f0, f1])) (h0 : f0.type = u) (h1 : f1.type = u) (o0 : f0.offset = 0) (o1 : f1.offset = 13)
    (hu : P.underlying u = some (.array 13 e)) (he : P.underlying e = some (.int .u8)) (hc : P.cellsOf e = 1) (ht : P.cellsOf u = 13) (ht2 : P.cellsOf t = 26)
    (hv : ∃ cs, v = .agg cs) (h : DataW.Trod enc P w base spare held t v d p) : ∃ y : Cu, v = .agg (hdCells y.1 ++ hdCells y.2).toArray ∧ d = cubeDatum y ∧ p = [] := by
  obtain ⟨cs, rfl⟩ := hv
  obtain ⟨fuel, hf⟩ := h
  obtain ⟨y0, y1, n, h2, hl, h3, h4⟩ := trod_struct2 hs hf
  simp only [Value.cells] at h3 h4 hl
  rw [h0, o0, ht] at h3
  rw [h1, o1, ht] at h4
  rw [ht2] at hl
  obtain ⟨a, ha, rfl⟩ := trod_hd hu he hc ht h3
  obtain ⟨b, hb, rfl⟩ := trod_hd hu he hc ht h4
  simp only [Prod.mk.injEq] at h2
  refine ⟨(a, b), ?_, h2.1, by rw [h2.2]; rfl⟩
  rw [← ha, ← hb]
  have : cs.toList = (cs.toList.drop 0).take 13 ++ (cs.toList.drop 13).take 13 := by
    rw [List.drop_zero, List.take_of_length_le (l := cs.toList.drop 13) (by rw [List.length_drop]; omega), List.take_append_drop]
  rw [← this]
theorem shut_cube {u : TypeId} {f0 f1 : Field} (hs : P.underlying t = some (.struct #[f0, f1])) (h0 : f0.type = u) (h1 : f1.type = u) (o0 : f0.offset = 0) (o1 : f1.offset = 13)
    (hu : P.underlying u = some (.array 13 e)) (he : P.underlying e = some (.int .u8)) (hc : P.cellsOf e = 1) (ht : P.cellsOf u = 13) (ht2 : P.cellsOf t = 26) (y : Cu) : DataW.Trod enc P w base spare held t (.agg (hdCells y.1 ++ hdCells y.2).toArray) (cubeDatum y) [] := by
  have e1 : ((hdCells y.1 ++ hdCells y.2).drop 0).take 13 = hdCells y.1 := by rw [List.drop_zero, List.take_left' (hdCells_length _)]
  have e2 : ((hdCells y.1 ++ hdCells y.2).drop 13).take 13 = hdCells y.2 := by rw [List.drop_left' (hdCells_length _), List.take_of_length_le (by rw [hdCells_length]; omega)]
  refine ⟨3, ?_⟩
  have := trod_struct2_mk (enc := enc) (w := w) (base := base) (spare := spare) (held := held) (n := 2) (cs := hdCells y.1 ++ hdCells y.2) hs (by rw [ht2]; simp [hdCells_length])
    (y0 := (hdDatum y.1, [])) (y1 := (hdDatum y.2, [])) (by rw [h0, o0, ht, e1]; exact trod_hd_mk hu he hc ht 0 y.1) (by rw [h1, o1, ht, e2]; exact trod_hd_mk hu he hc ht 0 y.2)
  simpa [Value.cells, cubeDatum] using this
end
section
variable {H : Type} {enc : TypeId × Value → H} {P : Program}
theorem post_of_below {f : Func} {s : ChangeSpec} {apart fresh handsOn again : Bool} {W W' : World} {args : Array Value} {v : Value} {ds gs : List (DataW H)} {before pa pv : List MemPlace}
    (hW : DataW.Whole enc P f.params.toList s.vars apart W args.toList ds gs before)
    (hres : ∀ (b : Nat) (sp : Nat → Bool) (hd : Bool), DataW.TrodAll enc P W' b sp hd f.resultTypes.toList (v.resultList f.resultTypes.size) (s.fn H (ds ++ gs)).results [])
    (hargs : ∀ sp : Nat → Bool, (∀ p ∈ before, sp p.block = true) → DataW.TrodAll enc P W' 0 sp true f.params.toList args.toList (s.fn H (ds ++ gs)).args pa)
    (hvars : ∀ sp : Nat → Bool, (∀ p ∈ before, sp p.block = true) → DataW.TrodVars enc P W' sp s.vars (s.fn H (ds ++ gs)).vars pv)
    (hps : before = pa ++ pv) (hb : Below W.heap.size W W')
    (hok : ∀ (j : Nat) (t : TypeId) (r : Value), f.resultTypes[j]? = some t → (v.resultList f.resultTypes.size)[j]? = some r → Value.okWide P W' .any 0 t r) :
    s.post enc P f apart fresh handsOn again W args v W' := by
  have hlt : ∀ p ∈ before, p.block < W.heap.size := fun p hp => hW.lt p hp
  have hold : ∀ p ∈ before, (fun b => decide (b < W.heap.size)) p.block = true := fun p hp => by simpa using hlt p hp
  refine ⟨ds, gs, before, [], pa, pv, hW, hres _ _ _, hargs _ hold, hvars _ hold, World.keptBut_mono (fun p hp => ⟨hp, ?_⟩) (hb.frame (· ∈ before)), fun _ => ?_⟩
  · rw [hps, List.mem_append] at hp
    exact Or.inr hp
  · obtain ⟨_, _, _, _, _, hz, hn⟩ := hW
    refine ⟨hok, _, _, ([] ++ pa) ++ pv, ⟨[] ++ pa, pv, trodAll_append (hargs _ (fun _ _ => rfl)) (hres _ _ _), hvars _ (fun _ _ => rfl), rfl, ?_, ?_⟩, ?_⟩
    · intro b off hp
      have hin : MemPlace.cell b off ∈ before := by rw [hps]; simpa using hp
      rw [hb.frozen (hlt _ hin)]
      exact hz b off hin
    · intro ha
      have := hn ha
      rw [hps] at this
      simpa using this
    · intro p hp _
      rw [hps]
      simpa using hp
end
end Mx
