/- CubeMeets: for every two cubes and every header the law returns true, and its arguments are as before. No condition. -/
import Derived.Test.YtlnofclfpcmneaaFj
import Derived.Test.YtlnofclfpcmneaaYa
import Derived.Test.YtlnofclfpcmneaaYb
import Derived.Test.YtlnofclfpcmneaaRows
import Derived.WalkKit
import Derived.ProofKit
import Derived.OpenShut
namespace Go.Proofs.Ytlnofclfpcmneaa
open Go Go.ChangeShapes Go.WideShapes Go.ChangeAt Go.RowKit Mx
theorem c5 : Try.prog.cellsOf 5 = 1 := by kernel_rfl
theorem c34 : Try.prog.cellsOf 34 = 13 := by kernel_rfl
theorem c36 : Try.prog.cellsOf 36 = 26 := by kernel_rfl
set_option maxRecDepth 100000 in
theorem lifted13 (os : Os) (started : os.Started) (H : Type) (enc : TypeId × Value → H) :
    ReturnsInHanded {} Try.checked os 13 .any (Rows.cubeMeetsSpec.pre6 enc Try.prog Try.f13 Rows.cubeMeetsRow.domain false) (Rows.cubeMeetsSpec.post enc Try.prog Try.f13 false true false false) := by
  refine returnsInHanded_of_change (C := Try.checked) Mh.own started (by kernel_rfl) Try.func13
    (ChangeSpec.witness6 (enc := enc) (C := Try.checked) false ⟨#[], #[.agg (flat cubeZ).toArray, .agg (flat cubeZ).toArray, .agg (flat (.hd 0)).toArray], []⟩ 8 (by kernel_rfl) (by kernel_rfl) (by kernel_rfl) (by kernel_rfl)) ?_
  intro W base args ds gs before hval0 hW hcnd _
  have hval : ∀ (j : Nat) t v, Try.f13.params[j]? = some t → args[j]? = some v → Value.okWide Try.prog W .any base t v := hval0
  have hW' := hW
  obtain ⟨p, q, hA0, hV, rfl, hfz, hnd⟩ := hW
  have hA : DataW.TrodAll enc Try.prog W 0 (fun _ => true) true Try.f13.params.toList args.toList ds p := hA0
  rw [Try.params13] at hA hval
  obtain ⟨v0, vs0, d0, ds0, p0, q0, hargs, rfl, rfl, h0, r0⟩ := trodAll_cons hA
  obtain ⟨v1, vs1, d1, ds1, p1, q1, rfl, rfl, rfl, h1, r1⟩ := trodAll_cons r0
  obtain ⟨v2, vs2, d2, ds2, p2, q2, rfl, rfl, rfl, h2, r2⟩ := trodAll_cons r1
  obtain ⟨rfl, rfl, rfl⟩ := trodAll_nil r2
  obtain rfl : args = #[v0, v1, v2] := by cases args; simp_all
  obtain ⟨rfl, rfl⟩ := trodVars_none hV
  obtain ⟨cc0, hv0, _⟩ := okWide_struct Try.underlying36 (hval 0 36 v0 rfl rfl)
  obtain ⟨cc1, hv1, _⟩ := okWide_struct Try.underlying36 (hval 1 36 v1 rfl rfl)
  have hv2 := hval 2 34 v2 rfl rfl
  unfold Value.okWide at hv2
  rw [Try.underlying34] at hv2
  obtain ⟨cc2, hv2, _⟩ := hv2
  obtain ⟨c0, rfl, rfl, rfl⟩ := open_cube Try.underlying36 rfl rfl rfl rfl Try.underlying34 Try.underlying5 c5 c34 c36 ⟨_, hv0⟩ h0
  obtain ⟨c1, rfl, rfl, rfl⟩ := open_cube Try.underlying36 rfl rfl rfl rfl Try.underlying34 Try.underlying5 c5 c34 c36 ⟨_, hv1⟩ h1
  obtain ⟨x2, rfl, rfl, rfl⟩ := open_hd Try.underlying34 Try.underlying5 c5 c34 ⟨_, hv2⟩ h2
  clear hA0 hval0
  simp only [List.append_nil] at hW'
  refine (law13 c0.1 c0.2 c1.1 c1.2 x2 (fun _ _ => False) W #[.agg (hdCells c0.1 ++ hdCells c0.2).toArray, .agg (hdCells c1.1 ++ hdCells c1.2).toArray, .agg (hdCells x2).toArray] (fun _ _ h => h.elim) ⟨⟨_, ⟨_, _, rfl, rfl, rfl⟩, rfl⟩, ⟨_, ⟨_, _, rfl, rfl, rfl⟩, rfl⟩, ⟨_, rfl, rfl⟩, rfl⟩).mono fun e W' ⟨v, ok', he, hb, hm, hr⟩ => ?_
  subst he
  obtain rfl := rel_b hr
  exact ⟨_, rfl, post_of_below (pa := []) (pv := []) hW' (fun _ _ _ => (trodAll_cons_mk (shut_bool Try.underlying4 _) trodAll_mk0))
    (fun sp _ => (trodAll_cons_mk (shut_cube Try.underlying36 rfl rfl rfl rfl Try.underlying34 Try.underlying5 c5 c34 c36 c0) (trodAll_cons_mk (shut_cube Try.underlying36 rfl rfl rfl rfl Try.underlying34 Try.underlying5 c5 c34 c36 c1) (trodAll_cons_mk (shut_hd Try.underlying34 Try.underlying5 c5 c34 x2) trodAll_mk0))))
    (fun _ _ => rfl) rfl hb (ok_one (by kernel_rfl) rfl (okWide_bool_mk Try.underlying4 _))⟩
theorem closed13 : joinedFacts Try.prog 13 Try.f13 Rows.cubeMeetsSpec Rows.cubeMeetsRow = true := by
  unfold joinedFacts
  rw [Mh.lifts, Mh.enters, Mh.makeCut, Mh.laidOut, Mh.mapsRow, Mh.noStops, Mh.noKnobs, Mh.plainKeys, Mh.heard]
  kernel_rfl
theorem named13 : Try.prog.funcNamed Rows.cubeMeetsRow.func = some 13 := by kernel_rfl
theorem inst13 : Try.f13.isInstance Try.prog Rows.cubeMeetsRow.origin Rows.cubeMeetsRow.targs := of_decide_eq_true (by kernel_rfl)
theorem wrap13 : Try.f13.isWrapper Try.prog Rows.cubeMeetsRow.wrapper Rows.cubeMeetsRow.mainSum := by unfold Func.isWrapper; first | (rw [if_pos (by decide +kernel)]; kernel_rfl) | (rw [if_neg (by decide +kernel)]; exact ⟨rfl, rfl⟩)
theorem cubeMeets : Rows.CubeMeetsSaid :=
  OpenClaim.holds_of_wide (p := Try.pinned) 13 Try.f13 rfl rfl rfl rfl rfl rfl rfl ⟨rfl, rfl, rfl, rfl, rfl⟩ rfl rfl rfl rfl rfl named13 Try.func13 closed13 inst13 wrap13
    (fun os started H enc _ => lifted13 os started H enc)
#print axioms cubeMeets
end Go.Proofs.Ytlnofclfpcmneaa
