/- CubeEnds: for all arguments the law returns true, and its arguments are as before. No condition. -/
import Derived.Test.YtlnofclfpcmneaaFm
import Derived.Test.YtlnofclfpcmneaaYa
import Derived.Test.YtlnofclfpcmneaaYb
import Derived.Test.YtlnofclfpcmneaaRows
import Derived.WalkKit
import Derived.ProofKit
import Derived.OpenShut
import Derived.ShutString
import Derived.ChangeOld
import Derived.Below
namespace Go.Proofs.Ytlnofclfpcmneaa
open Go Go.ChangeShapes Go.WideShapes Go.ChangeAt Go.RowKit Mx
open Go.ChangeMaps (open_string shut_string)
theorem c5 : Try.prog.cellsOf 5 = 1 := by kernel_rfl
theorem c34 : Try.prog.cellsOf 34 = 13 := by kernel_rfl
theorem c36 : Try.prog.cellsOf 36 = 26 := by kernel_rfl
set_option maxRecDepth 100000 in
theorem lifted19 (os : Os) (started : os.Started) (H : Type) (enc : TypeId × Value → H) :
    ReturnsInHanded {} Try.checked os 19 .any (Rows.cubeEndsSpec.pre6 enc Try.prog Try.f19 Rows.cubeEndsRow.domain false) (Rows.cubeEndsSpec.post enc Try.prog Try.f19 false true false false) := by
  refine returnsInHanded_of_change (C := Try.checked) Mh.own started (by kernel_rfl) Try.func19
    (ChangeSpec.witness6 (enc := enc) (C := Try.checked) false ⟨#[], #[.agg (flat cubeZ).toArray], []⟩ 8 (by kernel_rfl) (by kernel_rfl) (by kernel_rfl) (by kernel_rfl)) ?_
  intro W base args ds gs before hval0 hW hcnd _
  have hval : ∀ (j : Nat) t v, Try.f19.params[j]? = some t → args[j]? = some v → Value.okWide Try.prog W .any base t v := hval0
  have hW' := hW
  obtain ⟨p, q, hA0, hV, rfl, hfz, hnd⟩ := hW
  have hA : DataW.TrodAll enc Try.prog W 0 (fun _ => true) true Try.f19.params.toList args.toList ds p := hA0
  rw [Try.params19] at hA hval
  obtain ⟨v0, vs0, d0, ds0, p0, q0, hargs, rfl, rfl, h0, r0_⟩ := trodAll_cons hA
  obtain ⟨rfl, rfl, rfl⟩ := trodAll_nil r0_
  obtain rfl : args = #[v0] := by cases args; simp_all
  obtain ⟨rfl, rfl⟩ := trodVars_none hV
  have k0 := h0
  have lt0 : ∀ x ∈ p0, x.block < W.heap.size := by obtain ⟨m, hm⟩ := k0; exact DataW.trod_lt m _ _ _ hm
  obtain ⟨cc0, hv0, _⟩ := okWide_struct Try.underlying36 (hval 0 36 v0 rfl rfl)
  obtain ⟨x0, rfl, _, _⟩ := open_cube Try.underlying36 rfl rfl rfl rfl Try.underlying34 Try.underlying5 c5 c34 c36 ⟨_, hv0⟩ h0
  clear hA0 hval0
  refine (law19 x0.1 x0.2 (fun b _ => b < W.heap.size) W #[.agg (hdCells x0.1 ++ hdCells x0.2).toArray] (fun _ _ h => h) ⟨⟨_, ⟨_, _, rfl, rfl, rfl⟩, rfl⟩, rfl⟩).mono fun e W' ⟨v, ok', he, hb, hm, hr⟩ => ?_
  subst he
  obtain rfl := rel_b hr
  exact ⟨_, rfl, _, _, _, [], _, [], hW', trodAll_mk1 (shut_bool Try.underlying4 _), (trodAll_cons_mk (Below.trod Mh.laidOut (by kernel_rfl) (of_decide_eq_true (by kernel_rfl)) k0 hb lt0) trodAll_mk0), rfl, hb.frame _, fun h => by cases h⟩
theorem closed19 : joinedFacts Try.prog 19 Try.f19 Rows.cubeEndsSpec Rows.cubeEndsRow = true := by
  unfold joinedFacts
  rw [Mh.lifts, Mh.enters, Mh.makeCut, Mh.laidOut, Mh.mapsRow, Mh.noStops, Mh.noKnobs, Mh.plainKeys, Mh.heard]
  kernel_rfl
theorem named19 : Try.prog.funcNamed Rows.cubeEndsRow.func = some 19 := by kernel_rfl
theorem inst19 : Try.f19.isInstance Try.prog Rows.cubeEndsRow.origin Rows.cubeEndsRow.targs := of_decide_eq_true (by kernel_rfl)
theorem wrap19 : Try.f19.isWrapper Try.prog Rows.cubeEndsRow.wrapper Rows.cubeEndsRow.mainSum := by unfold Func.isWrapper; first | (rw [if_pos (by decide +kernel)]; kernel_rfl) | (rw [if_neg (by decide +kernel)]; exact ⟨rfl, rfl⟩)
theorem cubeEnds : Rows.CubeEndsSaid :=
  OpenClaim.holds_of_wide (p := Try.pinned) 19 Try.f19 rfl rfl rfl rfl rfl rfl rfl ⟨rfl, rfl, rfl, rfl, rfl⟩ rfl rfl rfl rfl rfl named19 Try.func19 closed19 inst19 wrap19
    (fun os started H enc _ => lifted19 os started H enc)
#print axioms cubeEnds
end Go.Proofs.Ytlnofclfpcmneaa
