/- CoverLeft: for all arguments the law returns true, and its arguments are as before. No condition. -/
import Derived.Test.YtlnofclfpcmneaaFv
import Derived.Test.YtlnofclfpcmneaaYd
import Derived.Test.YtlnofclfpcmneaaYb
import Derived.Test.YtlnofclfpcmneaaRows
import Derived.WalkKit
import Derived.ProofKit
import Derived.OpenShut
import Derived.ShutString
import Derived.ChangeOld
import Derived.Below
namespace Go.Proofs.Ytlnofclfpcmneaa
open Go Go.ChangeShapes Go.WideShapes Go.ChangeAt Go.RowKit Mx
open Go.ChangeMaps (open_string shut_string)
theorem c5 : Try.prog.cellsOf 5 = 1 := by kernel_rfl
theorem c34 : Try.prog.cellsOf 34 = 13 := by kernel_rfl
theorem c36 : Try.prog.cellsOf 36 = 26 := by kernel_rfl
theorem c58 : Try.prog.cellsOf 58 = 28 := by kernel_rfl
theorem c3 : Try.prog.cellsOf 3 = 1 := by kernel_rfl
set_option maxRecDepth 100000 in
theorem lifted24 (os : Os) (started : os.Started) (H : Type) (enc : TypeId × Value → H) :
    ReturnsInHanded {} Try.checked os 24 .any (Rows.coverLeftSpec.pre6 enc Try.prog Try.f24 Rows.coverLeftRow.domain false) (Rows.coverLeftSpec.post enc Try.prog Try.f24 false true false false) := by
  refine returnsInHanded_of_change (C := Try.checked) Mh.own started (by kernel_rfl) Try.func24
    (ChangeSpec.witness6 (enc := enc) (C := Try.checked) false ⟨#[], #[.agg (flat cubeZ).toArray, .slice none 0 0, .int .i64 0], []⟩ 8 (by kernel_rfl) (by kernel_rfl) (by kernel_rfl) (by kernel_rfl)) ?_
  intro W base args ds gs before hval0 hW hcnd _
  have hval : ∀ (j : Nat) t v, Try.f24.params[j]? = some t → args[j]? = some v → Value.okWide Try.prog W .any base t v := hval0
  have hW' := hW
  obtain ⟨p, q, hA0, hV, rfl, hfz, hnd⟩ := hW
  have hA : DataW.TrodAll enc Try.prog W 0 (fun _ => true) true Try.f24.params.toList args.toList ds p := hA0
  rw [Try.params24] at hA hval
  obtain ⟨v0, vs0, d0, ds0, p0, q0, hargs, rfl, rfl, h0, r0_⟩ := trodAll_cons hA
  obtain ⟨v1, vs1, d1, ds1, p1, q1, rfl, rfl, rfl, h1, r1_⟩ := trodAll_cons r0_
  obtain ⟨v2, vs2, d2, ds2, p2, q2, rfl, rfl, rfl, h2, r2_⟩ := trodAll_cons r1_
  obtain ⟨rfl, rfl, rfl⟩ := trodAll_nil r2_
  obtain rfl : args = #[v0, v1, v2] := by cases args; simp_all
  obtain ⟨rfl, rfl⟩ := trodVars_none hV
  have k0 := h0
  have lt0 : ∀ x ∈ p0, x.block < W.heap.size := by obtain ⟨m, hm⟩ := k0; exact DataW.trod_lt m _ _ _ hm
  obtain ⟨cc0, hv0, _⟩ := okWide_struct Try.underlying36 (hval 0 36 v0 rfl rfl)
  obtain ⟨x0, rfl, _, _⟩ := open_cube Try.underlying36 rfl rfl rfl rfl Try.underlying34 Try.underlying5 c5 c34 c36 ⟨_, hv0⟩ h0
  have k1 := h1
  have lt1 : ∀ x ∈ p1, x.block < W.heap.size := by obtain ⟨m, hm⟩ := k1; exact DataW.trod_lt m _ _ _ hm
  obtain ⟨a1, len1, cap1, rfl⟩ := okWide_slice Try.underlying74 (hval 1 74 v1 rfl rfl)
  obtain ⟨x1, hl1, hc1, hm1, hr1⟩ := open_sl (ee := .cube) Try.underlying74 c36 (reads_cube Try.underlying36 rfl rfl rfl rfl Try.underlying34 Try.underlying5 c5 c34 c36) h1
  have k2 := h2
  have lt2 : ∀ x ∈ p2, x.block < W.heap.size := by obtain ⟨m, hm⟩ := k2; exact DataW.trod_lt m _ _ _ hm
  obtain ⟨x2, rfl, _, _, w2⟩ := open_int Try.underlying3 (hval 2 3 v2 rfl rfl) h2
  have r2 := bounds_i64 w2
  clear hA0 hval0
  refine (law24 x0.1 x0.2 x1 x2 (fun b _ => b < W.heap.size) W #[.agg (hdCells x0.1 ++ hdCells x0.2).toArray, .slice a1 len1 cap1, .int .i64 x2] (fun _ _ h => h) ⟨⟨_, ⟨_, _, rfl, rfl, rfl⟩, rfl⟩, rel_slice hl1 hc1 hr1, ⟨_, rfl, rfl⟩, rfl⟩).mono fun e W' ⟨v, ok', he, hb, hm, hr⟩ => ?_
  subst he
  obtain rfl := rel_b hr
  exact ⟨_, rfl, _, _, _, [], _, [], hW', trodAll_mk1 (shut_bool Try.underlying4 _), (trodAll_cons_mk (Below.trod Mh.laidOut (by kernel_rfl) (of_decide_eq_true (by kernel_rfl)) k0 hb lt0) (trodAll_cons_mk (Below.trod Mh.laidOut (by kernel_rfl) (of_decide_eq_true (by kernel_rfl)) k1 hb lt1) (trodAll_cons_mk (Below.trod Mh.laidOut (by kernel_rfl) (of_decide_eq_true (by kernel_rfl)) k2 hb lt2) trodAll_mk0))), rfl, hb.frame _, fun h => by cases h⟩
theorem closed24 : joinedFacts Try.prog 24 Try.f24 Rows.coverLeftSpec Rows.coverLeftRow = true := by
  unfold joinedFacts
  rw [Mh.lifts, Mh.enters, Mh.makeCut, Mh.laidOut, Mh.mapsRow, Mh.noStops, Mh.noKnobs, Mh.plainKeys, Mh.heard]
  kernel_rfl
theorem named24 : Try.prog.funcNamed Rows.coverLeftRow.func = some 24 := by kernel_rfl
theorem inst24 : Try.f24.isInstance Try.prog Rows.coverLeftRow.origin Rows.coverLeftRow.targs := of_decide_eq_true (by kernel_rfl)
theorem wrap24 : Try.f24.isWrapper Try.prog Rows.coverLeftRow.wrapper Rows.coverLeftRow.mainSum := by unfold Func.isWrapper; first | (rw [if_pos (by decide +kernel)]; kernel_rfl) | (rw [if_neg (by decide +kernel)]; exact ⟨rfl, rfl⟩)
theorem coverLeft : Rows.CoverLeftSaid :=
  OpenClaim.holds_of_wide (p := Try.pinned) 24 Try.f24 rfl rfl rfl rfl rfl rfl rfl ⟨rfl, rfl, rfl, rfl, rfl⟩ rfl rfl rfl rfl rfl named24 Try.func24 closed24 inst24 wrap24
    (fun os started H enc _ => lifted24 os started H enc)
#print axioms coverLeft
end Go.Proofs.Ytlnofclfpcmneaa
