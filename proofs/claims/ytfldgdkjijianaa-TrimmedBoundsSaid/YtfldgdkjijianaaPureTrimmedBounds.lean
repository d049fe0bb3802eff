/-
  The plain law of TrimmedBounds.
-/
import Derived.Test.YtfldgdkjijianaaPlAwake
import Derived.Test.YtfldgdkjijianaaPx14
namespace Go.Proofs.Ytfldgdkjijianaa.Pure
open Go.RowKit Go.Proofs.Ytfldgdkjijianaa.P Go.Proofs.YtfldgdkjijianaaW.PrintWords Go.Proofs.YtfldgdkjijianaaW.PrintLast
set_option linter.unusedVariables false
set_option linter.unusedSimpArgs false

theorem With_f (l : List Int) (i v : Int) (hl : l.length < 1000000) (h0 : 0 ≤ i) (h1 : i < l.length) : salchowref28_With.f l i v = some (l.set i.toNat v) := by
  unfold salchowref28_With.f
  simp only [Option.bind_some, List.nil_append, List.length_nil, Nat.zero_add]
  rw [if_pos (by omega), if_pos h0, if_pos h1]
theorem Vd_self (l : List Int) (a i v : Int) (h1 : (l.length : Int) ≤ 1000) (h2 : 0 ≤ a) (h3 : ∀ x ∈ l, okR x) (h4 : 2 * a < l.length) (hv : okR v) : Vd (meanL (l.set i.toNat v) a) :=
  meanL_Vd _ a (by rw [List.length_set]; exact h1) h2 (okR_set l h3 _ _ hv) (by rw [List.length_set]; exact h4)
theorem mean_le (l : List Int) (a i v v' : Int) (h1 : (l.length : Int) ≤ 1000) (h2 : 0 ≤ a) (h3 : ∀ x ∈ l, okR x) (h4 : 2 * a < l.length) (hv : okR v) (hv' : okR v') (h : v ≤ v') : cmpF (meanL (l.set i.toNat v) a) (meanL (l.set i.toNat v') a) ≤ 0 := by
  have b1 := meanL_bound (l.set i.toNat v) a (by rw [List.length_set]; exact h1) h2 (okR_set l h3 _ _ hv) (by rw [List.length_set]; exact h4)
  have b2 := meanL_bound (l.set i.toNat v') a (by rw [List.length_set]; exact h1) h2 (okR_set l h3 _ _ hv') (by rw [List.length_set]; exact h4)
  unfold meanL
  simp only [List.length_set]
  refine nrm_cmp _ _ _ _ (by omega) (by omega) (by omega) (by omega) (by omega) (by omega) ?_
  refine Int.mul_le_mul_of_nonneg_right ?_ (by omega)
  refine keptL_mono _ _ _ (by rw [List.length_set]; omega) (by simp) (fun j hj hj' => ?_)
  rw [List.getElem_set, List.getElem_set]
  split
  · exact h
  · exact Int.le_refl _

theorem TrimmedBounds : salchowlaw28_TrimmedBounds.Pure := by
  intro l a i lo hi v hl hl8 hw wa wi wlo whi wv
  refine Ev.rounds (g := fun k => salchowlaw28_TrimmedBounds.f k l a i lo hi v) ?_
  unfold salchowlaw28_TrimmedBounds.f
  refine Ev.bind ev_awake ?_
  refine Ev.if_pos_ rfl ?_
  by_cases h60 : (l.length : Int) > 60
  · exact Ev.if_pos_ h60 (Ev.now _)
  · refine Ev.if_neg_ h60 ?_
    refine Ev.bind (ev_Influence l a i lo hi hl) ?_
    have htrue : ∀ q1 q2 q3 q4 : Int, Ev (fun k => salchowlaw28_TrimmedBounds.j0 k l a i lo hi v true q1 q2 q3 q4) true := by
      intro q1 q2 q3 q4
      refine Ev.step (f := fun _ => some true) (fun k => ?_) (Ev.now _)
      rw [salchowlaw28_TrimmedBounds.j0.eq_2, if_pos rfl]
    by_cases h0 : inflC l a i lo hi = 0
    · obtain ⟨q1, q2, q3, q4, q5, q6, q7, q8, q9⟩ := (inflC_zero l a i lo hi).1 h0
      simp only [if_pos h0]
      refine Ev.if_pos_ trivial ?_
      by_cases hv1 : v < lo
      · exact Ev.if_pos_ hv1 (htrue _ _ _ _)
      · refine Ev.if_neg_ hv1 ?_
        by_cases hv2 : v > hi
        · rw [decide_eq_true hv2]; exact htrue _ _ _ _
        · rw [decide_eq_false hv2]
          have okv : okR v := by unfold okR at *; omega
          have W := fun u : Int => With_f l i u (by omega) q5 q6
          have M : ∀ u : Int, okR u → Ev (fun k => trimmed_Mean.f k (l.set i.toNat u) a) ((meanL (l.set i.toNat u) a).1, (meanL (l.set i.toNat u) a).2, 0) := by
            intro u hu
            have h := ev_Mean (l.set i.toNat u) a (by rw [List.length_set]; exact hl)
            rwa [if_pos ((allC_zero _ _).2 ⟨by rw [List.length_set]; exact q1, q2, okR_set l q3 _ _ hu, by rw [List.length_set]; exact q4⟩)] at h
          refine Ev.step (f := fun k => (salchowref28_With.f l i v).bind fun t399 => ((trimmed_Mean.f k t399 a).bind fun bt402 => ((salchowref28_With.f l i lo).bind fun t406 => ((trimmed_Mean.f k t406 a).bind fun bt409 => ((salchowref28_With.f l i hi).bind fun t413 => ((trimmed_Mean.f k t413 a).bind fun bt416 => (if bt402.2.2 = 0 then (if bt409.2.2 = 0 then (if bt416.2.2 = 0 then ((fraction_Cmp.f k (meanL (l.set i.toNat lo) a).1 (meanL (l.set i.toNat lo) a).2 bt402.1 bt402.2.1).bind fun t420 => (if t420 ≤ 0 then ((fraction_Cmp.f k bt402.1 bt402.2.1 (meanL (l.set i.toNat hi) a).1 (meanL (l.set i.toNat hi) a).2).bind fun t421 => (if t421 ≤ 0 then (if (bt409.1 == (meanL (l.set i.toNat lo) a).1 && (bt409.2.1 == (meanL (l.set i.toNat lo) a).2)) = true then (some (bt416.1 == (meanL (l.set i.toNat hi) a).1 && (bt416.2.1 == (meanL (l.set i.toNat hi) a).2))) else (some false)) else (some false))) else (some false))) else (some false)) else (some false)) else (some false)))))))) (fun k => ?_) ?_
          · rw [salchowlaw28_TrimmedBounds.j0.eq_2, if_neg (by decide)]
          · simp only [W, Option.bind_some]
            refine Ev.bind (M v okv) (Ev.bind (M lo q8) (Ev.bind (M hi q9) ?_))
            refine Ev.if_pos_ rfl (Ev.if_pos_ rfl (Ev.if_pos_ rfl ?_))
            refine Ev.bind (ev_cmp _ _ (Vd_self l a i lo q1 q2 q3 q4 q8) (Vd_self l a i v q1 q2 q3 q4 okv)) ?_
            refine Ev.if_pos_ (mean_le l a i lo v q1 q2 q3 q4 q8 okv (by omega)) ?_
            refine Ev.bind (ev_cmp _ _ (Vd_self l a i v q1 q2 q3 q4 okv) (Vd_self l a i hi q1 q2 q3 q4 q9)) ?_
            refine Ev.if_pos_ (mean_le l a i v hi q1 q2 q3 q4 okv q9 (by omega)) ?_
            refine Ev.if_pos_ (by simp) ?_
            simp only [BEq.rfl, Bool.and_self]
            exact Ev.now _
    · simp only [if_neg h0]
      exact htrue _ _ _ _

end Go.Proofs.Ytfldgdkjijianaa.Pure
