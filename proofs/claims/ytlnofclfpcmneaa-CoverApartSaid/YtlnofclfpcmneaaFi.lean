/- The chapter's examples. Own work. -/
import Derived.Test.YtlnofclfpcmneaaFh
namespace Mx
open Go Go.Proofs
set_option maxRecDepth 100000 in
theorem walk60 (u : Lk) : Walk Try.f60 (Try.f60.body.getD .skip) [(72, allS u), (63, fixS u), (61, meetS u), (65, splitS u), (66, minusS u), (80, textS u), (78, freeS u)] u [] (.b true) := by
  intro L hL
  clear hL
  cbv
  obtain rfl := Lk.eq_std u
  simp only [Lk.std]
  have e1 : ∀ x : Cu, (x.1, x.2) = x := fun _ => rfl
  simp only [e1]
  have k1 : meetOk (fixC (0#104, 0#104) 0 false) (fixC (0#104, 0#104) 1 true) = true := by decide
  have k2 : ((textM (meetC (fixC (0#104, 0#104) 0 false) (fixC (0#104, 0#104) 1 true))).size : Int) = 104 := by decide
  have k3 : ((minusM (0#104, 0#104) (meetC (fixC (0#104, 0#104) 0 false) (fixC (0#104, 0#104) 1 true))).length : Int) = 2 := by decide
  have k4 : ((textM (atL E.cube (minusM (0#104, 0#104) (meetC (fixC (0#104, 0#104) 0 false) (fixC (0#104, 0#104) 1 true))) 1)).size : Int) = 104 := by decide
  have k5 : ((textM (meetC (fixC (0#104, 0#104) 0 false) (fixC (0#104, 0#104) 1 true))).extract 0 3).toList = [48, 49, 42] := by rw [ByteArray.toList_eq]; decide
  have k6 : splitE (fixC (0#104, 0#104) 0 false) 0 = 3 := by decide
  have k7 : ((textM (atL E.cube (minusM (0#104, 0#104) (meetC (fixC (0#104, 0#104) 0 false) (fixC (0#104, 0#104) 1 true))) 1)).extract 0 3).toList = [48, 48, 42] := by rw [ByteArray.toList_eq]; decide
  have k8 : freeM (0#104, 0#104) = 104 := by decide
  simp [k1, k2, k3, k4, k5, k6, k7, k8]
def yesS : Spec
  | [] => some (True, .b true)
  | _ => none
theorem yesS_spec {args : List SV} {q : Prop} {r : SV} (h : yesS args = some (q, r)) : args = [] ∧ r = .b true := by
  unfold yesS at h
  split at h
  · simp only [Option.some.injEq, Prod.mk.injEq] at h
    exact ⟨rfl, h.2.symm⟩
  · cases h
theorem plain60 : Plainly Try.prog 60 := ⟨Try.f60, Try.func60, by kernel_rfl, by kernel_rfl⟩
theorem ok60 : SpecOK Try.prog 60 yesS := fun args q r h hq => by
  obtain ⟨rfl, rfl⟩ := yesS_spec h
  exact fn_ok (u := Lk.std) Try.func60 rfl ((fns_cons plain72 (ok72 Lk.std) (fns_cons plain63 (ok63 Lk.std) (fns_cons plain61 (ok61 Lk.std) (fns_cons plain65 (ok65 Lk.std) (fns_cons plain66 (ok66 Lk.std) (fns_cons plain80 (ok80 Lk.std) (fns_cons plain78 (ok78 Lk.std) fns_nil)))))))) rfl rfl (walk60 Lk.std)
end Mx

