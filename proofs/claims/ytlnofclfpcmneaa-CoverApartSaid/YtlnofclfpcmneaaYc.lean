/- A program's head 'harness SUM cut ..': what follows of it. Own work; any program. -/
import Derived.JoinedOf
import Derived.KernelRfl
namespace Mh
open Go
theorem words_app : ∀ (w r : List Char), (∀ c ∈ w, c ≠ Char.ofNat 32) → wordsSigns (w ++ Char.ofNat 32 :: r) = w :: wordsSigns r
  | [], _, _ => rfl
  | c :: w, r, h => by
    have ih := words_app w r (fun x hx => h x (by simp [hx]))
    rw [List.cons_append, wordsSigns.eq_def]
    split
    · simp_all
    · rename_i heq
      injection heq with h1 h2
      exact (h c (by simp) h1).elim
    · rename_i heq
      injection heq with h1 h2
      subst h1 h2
      rw [ih]
def harnessL : List Char := [Char.ofNat 104, Char.ofNat 97, Char.ofNat 114, Char.ofNat 110, Char.ofNat 101, Char.ofNat 115, Char.ofNat 115]
def cutL : List Char := [Char.ofNat 99, Char.ofNat 117, Char.ofNat 116]
theorem harness_eq : (harnessL == "harness".toList) = true := by decide +kernel
theorem cut_eq : (cutL == "cut".toList) = true := by decide +kernel
theorem cut_gc : (cutL == "gc".toList) = false := by decide +kernel
theorem cut_spec : (cutL == "spec".toList) = false := by decide +kernel
theorem cut_carried : (cutL == "carried".toList) = false := by decide +kernel
def Headed (P : Program) : Prop := ∃ S R, P.initOrder = String.ofList (harnessL ++ Char.ofNat 32 :: (S ++ Char.ofNat 32 :: (cutL ++ Char.ofNat 32 :: R))) ∧ isSumSigns S = true
theorem sum_space {S : List Char} (h : isSumSigns S = true) : ∀ c ∈ S, c ≠ Char.ofNat 32 := by
  intro c hc e
  simp only [isSumSigns, Bool.and_eq_true, List.all_eq_true] at h
  have := h.2 c hc
  subst e
  revert this
  decide
theorem behind {P : Program} (h : Headed P) : ∃ R, behindMainWord (wordsSigns P.initOrder.toList) = cutL :: wordsSigns R := by
  obtain ⟨S, R, h, hS⟩ := h
  refine ⟨R, ?_⟩
  rw [h, String.toList_ofList, words_app _ _ (by unfold harnessL; decide), words_app _ _ (sum_space hS), words_app _ _ (by unfold cutL; decide)]
  unfold behindMainWord
  simp only [harness_eq, Bool.true_or, hS, Bool.and_self, if_true]
theorem strip (R : List (List Char)) : stripLifts liftWords (cutL :: R) = ([], cutL :: R) := by
  have hne : ∀ o ∈ liftWords, (cutL == o.toList) = false := by decide +kernel
  generalize liftWords = l at hne
  induction l with
  | nil => rfl
  | cons o os ih =>
    rw [stripLifts, hne o (by simp)]
    exact ih fun x hx => hne x (by simp [hx])
theorem some_cut : (some cutL == some "cut".toList) = true := cut_eq
theorem some_carried : (some cutL == some "carried".toList) = false := cut_carried
theorem headLifts {P : Program} (h : Headed P) : P.headLifts = [] := by
  obtain ⟨R, h⟩ := behind h
  unfold Program.headLifts
  simp only [h, strip, List.head?_cons, some_cut, if_true]
theorem lifts_of {P : Program} (h : Headed P) : P.liftsFinal = false := by
  have h1 := headLifts h
  obtain ⟨R, h⟩ := behind h
  unfold Program.liftsFinal
  simp only [h, h1, List.head?_cons, some_carried, Bool.false_and, Bool.false_or]
  rfl
theorem make_of {P : Program} (h : Headed P) : P.make = some .cut := by
  obtain ⟨R, h⟩ := behind h
  unfold Program.make
  simp only [h, cut_eq, cut_gc, cut_spec, Bool.or_self, Bool.false_eq_true, if_false, Bool.true_or, if_true]
theorem enter_of {P : Program} (h : Headed P) (h1 : P.laysLater = false) (h2 : P.bearsReflect = false) (h3 : P.doorFits [] = true) : P.mayEnter = true := by
  obtain ⟨R, h⟩ := behind h
  unfold Program.mayEnter
  simp only [h, strip, List.head?_cons, some_cut, h1, h2, h3, cut_gc, cut_spec, cut_carried, Bool.or_self, Bool.false_and, Bool.false_or, Bool.not_false, Bool.or_true, Bool.true_and, Bool.and_true, List.contains_nil, Bool.true_or]
end Mh
