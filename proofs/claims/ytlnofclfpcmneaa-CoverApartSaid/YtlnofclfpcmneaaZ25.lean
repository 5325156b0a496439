/- CoverApart: for all arguments the law returns true, and its arguments are as before. No condition. -/
import Derived.Test.YtlnofclfpcmneaaFv
import Derived.Test.YtlnofclfpcmneaaYd
import Derived.Test.YtlnofclfpcmneaaYb
import Derived.Test.YtlnofclfpcmneaaRows
import Derived.WalkKit
import Derived.ProofKit
import Derived.OpenShut
import Derived.ShutString
import Derived.ChangeOld
import Derived.Below
namespace Go.Proofs.Ytlnofclfpcmneaa
open Go Go.ChangeShapes Go.WideShapes Go.ChangeAt Go.RowKit Mx
open Go.ChangeMaps (open_string shut_string)
theorem c5 : Try.prog.cellsOf 5 = 1 := by kernel_rfl
theorem c34 : Try.prog.cellsOf 34 = 13 := by kernel_rfl
theorem c36 : Try.prog.cellsOf 36 = 26 := by kernel_rfl
theorem c58 : Try.prog.cellsOf 58 = 28 := by kernel_rfl
theorem c3 : Try.prog.cellsOf 3 = 1 := by kernel_rfl
set_option maxRecDepth 100000 in
theorem lifted25 (os : Os) (started : os.Started) (H : Type) (enc : TypeId × Value → H) :
    ReturnsInHanded {} Try.checked os 25 .any (Rows.coverApartSpec.pre6 enc Try.prog Try.f25 Rows.coverApartRow.domain false) (Rows.coverApartSpec.post enc Try.prog Try.f25 false true false false) := by
  refine returnsInHanded_of_change (C := Try.checked) Mh.own started (by kernel_rfl) Try.func25
    (ChangeSpec.witness6 (enc := enc) (C := Try.checked) false ⟨#[], #[.slice none 0 0, .agg (flat (.hd 0)).toArray], []⟩ 8 (by kernel_rfl) (by kernel_rfl) (by kernel_rfl) (by kernel_rfl)) ?_
  intro W base args ds gs before hval0 hW hcnd _
  have hval : ∀ (j : Nat) t v, Try.f25.params[j]? = some t → args[j]? = some v → Value.okWide Try.prog W .any base t v := hval0
  have hW' := hW
  obtain ⟨p, q, hA0, hV, rfl, hfz, hnd⟩ := hW
  have hA : DataW.TrodAll enc Try.prog W 0 (fun _ => true) true Try.f25.params.toList args.toList ds p := hA0
  rw [Try.params25] at hA hval
  obtain ⟨v0, vs0, d0, ds0, p0, q0, hargs, rfl, rfl, h0, r0_⟩ := trodAll_cons hA
  obtain ⟨v1, vs1, d1, ds1, p1, q1, rfl, rfl, rfl, h1, r1_⟩ := trodAll_cons r0_
  obtain ⟨rfl, rfl, rfl⟩ := trodAll_nil r1_
  obtain rfl : args = #[v0, v1] := by cases args; simp_all
  obtain ⟨rfl, rfl⟩ := trodVars_none hV
  have k0 := h0
  have lt0 : ∀ x ∈ p0, x.block < W.heap.size := by obtain ⟨m, hm⟩ := k0; exact DataW.trod_lt m _ _ _ hm
  obtain ⟨a0, len0, cap0, rfl⟩ := okWide_slice Try.underlying74 (hval 0 74 v0 rfl rfl)
  obtain ⟨x0, hl0, hc0, hm0, hr0⟩ := open_sl (ee := .cube) Try.underlying74 c36 (reads_cube Try.underlying36 rfl rfl rfl rfl Try.underlying34 Try.underlying5 c5 c34 c36) h0
  have k1 := h1
  have lt1 : ∀ x ∈ p1, x.block < W.heap.size := by obtain ⟨m, hm⟩ := k1; exact DataW.trod_lt m _ _ _ hm
  have hw1 := hval 1 34 v1 rfl rfl
  unfold Value.okWide at hw1
  rw [Try.underlying34] at hw1
  obtain ⟨cc1, hv1, _⟩ := hw1
  obtain ⟨x1, rfl, _, _⟩ := open_hd Try.underlying34 Try.underlying5 c5 c34 ⟨_, hv1⟩ h1
  clear hA0 hval0
  refine (law25 x0 x1 (fun b _ => b < W.heap.size) W #[.slice a0 len0 cap0, .agg (hdCells x1).toArray] (fun _ _ h => h) ⟨rel_slice hl0 hc0 hr0, ⟨_, rfl, rfl⟩, rfl⟩).mono fun e W' ⟨v, ok', he, hb, hm, hr⟩ => ?_
  subst he
  obtain rfl := rel_b hr
  exact ⟨_, rfl, _, _, _, [], _, [], hW', trodAll_mk1 (shut_bool Try.underlying4 _), (trodAll_cons_mk (Below.trod Mh.laidOut (by kernel_rfl) (of_decide_eq_true (by kernel_rfl)) k0 hb lt0) (trodAll_cons_mk (Below.trod Mh.laidOut (by kernel_rfl) (of_decide_eq_true (by kernel_rfl)) k1 hb lt1) trodAll_mk0)), rfl, hb.frame _, fun h => by cases h⟩
theorem closed25 : joinedFacts Try.prog 25 Try.f25 Rows.coverApartSpec Rows.coverApartRow = true := by
  unfold joinedFacts
  rw [Mh.lifts, Mh.enters, Mh.makeCut, Mh.laidOut, Mh.mapsRow, Mh.noStops, Mh.noKnobs, Mh.plainKeys, Mh.heard]
  kernel_rfl
theorem named25 : Try.prog.funcNamed Rows.coverApartRow.func = some 25 := by kernel_rfl
theorem inst25 : Try.f25.isInstance Try.prog Rows.coverApartRow.origin Rows.coverApartRow.targs := of_decide_eq_true (by kernel_rfl)
theorem wrap25 : Try.f25.isWrapper Try.prog Rows.coverApartRow.wrapper Rows.coverApartRow.mainSum := by unfold Func.isWrapper; first | (rw [if_pos (by decide +kernel)]; kernel_rfl) | (rw [if_neg (by decide +kernel)]; exact ⟨rfl, rfl⟩)
theorem coverApart : Rows.CoverApartSaid :=
  OpenClaim.holds_of_wide (p := Try.pinned) 25 Try.f25 rfl rfl rfl rfl rfl rfl rfl ⟨rfl, rfl, rfl, rfl, rfl⟩ rfl rfl rfl rfl rfl named25 Try.func25 closed25 inst25 wrap25
    (fun os started H enc _ => lifted25 os started H enc)
#print axioms coverApart
end Go.Proofs.Ytlnofclfpcmneaa
