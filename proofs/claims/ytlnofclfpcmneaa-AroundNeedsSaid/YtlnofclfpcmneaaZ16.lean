/- AroundNeeds: for all arguments the law returns true, and its arguments are as before. No condition. -/
import Derived.Test.YtlnofclfpcmneaaFq
import Derived.Test.YtlnofclfpcmneaaYd
import Derived.Test.YtlnofclfpcmneaaYb
import Derived.Test.YtlnofclfpcmneaaRows
import Derived.WalkKit
import Derived.ProofKit
import Derived.OpenShut
import Derived.ShutString
import Derived.ChangeOld
import Derived.Below
namespace Go.Proofs.Ytlnofclfpcmneaa
open Go Go.ChangeShapes Go.WideShapes Go.ChangeAt Go.RowKit Mx
open Go.ChangeMaps (open_string shut_string)
theorem c5 : Try.prog.cellsOf 5 = 1 := by kernel_rfl
theorem c34 : Try.prog.cellsOf 34 = 13 := by kernel_rfl
theorem c36 : Try.prog.cellsOf 36 = 26 := by kernel_rfl
theorem c58 : Try.prog.cellsOf 58 = 28 := by kernel_rfl
theorem c3 : Try.prog.cellsOf 3 = 1 := by kernel_rfl
set_option maxRecDepth 100000 in
theorem lifted16 (os : Os) (started : os.Started) (H : Type) (enc : TypeId × Value → H) :
    ReturnsInHanded {} Try.checked os 16 .any (Rows.aroundNeedsSpec.pre6 enc Try.prog Try.f16 Rows.aroundNeedsRow.domain false) (Rows.aroundNeedsSpec.post enc Try.prog Try.f16 false true false false) := by
  refine returnsInHanded_of_change (C := Try.checked) Mh.own started (by kernel_rfl) Try.func16
    (ChangeSpec.witness6 (enc := enc) (C := Try.checked) false ⟨#[], #[.slice none 0 0, .int .i64 0], []⟩ 8 (by kernel_rfl) (by kernel_rfl) (by kernel_rfl) (by kernel_rfl)) ?_
  intro W base args ds gs before hval0 hW hcnd _
  have hval : ∀ (j : Nat) t v, Try.f16.params[j]? = some t → args[j]? = some v → Value.okWide Try.prog W .any base t v := hval0
  have hW' := hW
  obtain ⟨p, q, hA0, hV, rfl, hfz, hnd⟩ := hW
  have hA : DataW.TrodAll enc Try.prog W 0 (fun _ => true) true Try.f16.params.toList args.toList ds p := hA0
  rw [Try.params16] at hA hval
  obtain ⟨v0, vs0, d0, ds0, p0, q0, hargs, rfl, rfl, h0, r0_⟩ := trodAll_cons hA
  obtain ⟨v1, vs1, d1, ds1, p1, q1, rfl, rfl, rfl, h1, r1_⟩ := trodAll_cons r0_
  obtain ⟨rfl, rfl, rfl⟩ := trodAll_nil r1_
  obtain rfl : args = #[v0, v1] := by cases args; simp_all
  obtain ⟨rfl, rfl⟩ := trodVars_none hV
  have k0 := h0
  have lt0 : ∀ x ∈ p0, x.block < W.heap.size := by obtain ⟨m, hm⟩ := k0; exact DataW.trod_lt m _ _ _ hm
  obtain ⟨a0, len0, cap0, rfl⟩ := okWide_slice Try.underlying49 (hval 0 49 v0 rfl rfl)
  obtain ⟨x0, hl0, hc0, hm0, hr0⟩ := open_sl (ee := .rule) Try.underlying49 c58 (reads_rule Try.underlying58 rfl rfl rfl rfl rfl rfl Try.underlying3 c3 c58 Try.underlying36 rfl rfl rfl rfl Try.underlying34 Try.underlying5 c5 c34 c36) h0
  have k1 := h1
  have lt1 : ∀ x ∈ p1, x.block < W.heap.size := by obtain ⟨m, hm⟩ := k1; exact DataW.trod_lt m _ _ _ hm
  obtain ⟨x1, rfl, _, _, w1⟩ := open_int Try.underlying3 (hval 1 3 v1 rfl rfl) h1
  have r1 := bounds_i64 w1
  clear hA0 hval0
  refine (law16 x0 x1 (fun b _ => b < W.heap.size) W #[.slice a0 len0 cap0, .int .i64 x1] (fun _ _ h => h) ⟨rel_slice hl0 hc0 hr0, ⟨_, rfl, rfl⟩, rfl⟩).mono fun e W' ⟨v, ok', he, hb, hm, hr⟩ => ?_
  subst he
  obtain rfl := rel_b hr
  exact ⟨_, rfl, _, _, _, [], _, [], hW', trodAll_mk1 (shut_bool Try.underlying4 _), (trodAll_cons_mk (Below.trod Mh.laidOut (by kernel_rfl) (of_decide_eq_true (by kernel_rfl)) k0 hb lt0) (trodAll_cons_mk (Below.trod Mh.laidOut (by kernel_rfl) (of_decide_eq_true (by kernel_rfl)) k1 hb lt1) trodAll_mk0)), rfl, hb.frame _, fun h => by cases h⟩
theorem closed16 : joinedFacts Try.prog 16 Try.f16 Rows.aroundNeedsSpec Rows.aroundNeedsRow = true := by
  unfold joinedFacts
  rw [Mh.lifts, Mh.enters, Mh.makeCut, Mh.laidOut, Mh.mapsRow, Mh.noStops, Mh.noKnobs, Mh.plainKeys, Mh.heard]
  kernel_rfl
theorem named16 : Try.prog.funcNamed Rows.aroundNeedsRow.func = some 16 := by kernel_rfl
theorem inst16 : Try.f16.isInstance Try.prog Rows.aroundNeedsRow.origin Rows.aroundNeedsRow.targs := of_decide_eq_true (by kernel_rfl)
theorem wrap16 : Try.f16.isWrapper Try.prog Rows.aroundNeedsRow.wrapper Rows.aroundNeedsRow.mainSum := by unfold Func.isWrapper; first | (rw [if_pos (by decide +kernel)]; kernel_rfl) | (rw [if_neg (by decide +kernel)]; exact ⟨rfl, rfl⟩)
theorem aroundNeeds : Rows.AroundNeedsSaid :=
  OpenClaim.holds_of_wide (p := Try.pinned) 16 Try.f16 rfl rfl rfl rfl rfl rfl rfl ⟨rfl, rfl, rfl, rfl, rfl⟩ rfl rfl rfl rfl rfl named16 Try.func16 closed16 inst16 wrap16
    (fun os started H enc _ => lifted16 os started H enc)
#print axioms aroundNeeds
end Go.Proofs.Ytlnofclfpcmneaa
