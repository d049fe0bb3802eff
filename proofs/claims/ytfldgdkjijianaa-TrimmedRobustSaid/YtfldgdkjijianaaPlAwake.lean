/-
  Plain: what Influence, Median, Kept and (of 20 marks at most) Dropped tell; the law's 'awake' tells true.
-/
import Derived.Test.YtfldgdkjijianaaPlTrim
import Derived.Test.YtfldgdkjijianaaPx6
namespace Go.Proofs.Ytfldgdkjijianaa.P
open Go.RowKit Go.Proofs.YtfldgdkjijianaaW.PrintWords Go.Proofs.YtfldgdkjijianaaW.PrintLast
set_option linter.unusedVariables false
set_option linter.unusedSimpArgs false

def inflC (l : List Int) (a i lo hi : Int) : Int :=
  if checkC l.length a 0 ≠ 0 then checkC l.length a 0 else if i < 0 ∨ i ≥ (l.length : Int) ∨ lo > hi then 1 else fstC [rangeC (l ++ [lo, hi]), enC l.length a]
theorem inflC_zero (l : List Int) (a i lo hi : Int) : inflC l a i lo hi = 0 ↔ (l.length : Int) ≤ 1000 ∧ 0 ≤ a ∧ (∀ x ∈ l, okR x) ∧ 2 * a < l.length ∧ 0 ≤ i ∧ i < l.length ∧ lo ≤ hi ∧ okR lo ∧ okR hi := by
  unfold inflC
  have hc := allC_zero (l ++ [lo, hi]) a
  constructor
  · intro h
    by_cases h1 : checkC l.length a 0 ≠ 0
    · rw [if_pos h1] at h; exact absurd h h1
    · rw [if_neg h1] at h
      by_cases h2 : i < 0 ∨ i ≥ (l.length : Int) ∨ lo > hi
      · rw [if_pos h2] at h; exact absurd h (by decide)
      · rw [if_neg h2] at h
        simp only [fstC] at h
        by_cases h3 : rangeC (l ++ [lo, hi]) = 0
        · rw [if_pos h3] at h
          have hr : ∀ x ∈ l ++ [lo, hi], okR x := by
            unfold rangeC at h3
            by_cases hr : ∀ x ∈ l ++ [lo, hi], okR x
            · exact hr
            · rw [if_neg hr] at h3; exact absurd h3 (by decide)
          have h4 : enC l.length a = 0 := by
            by_cases h4 : enC l.length a = 0
            · exact h4
            · rw [if_neg h4] at h; exact absurd h h4
          have h5 : allC l a = 0 := by
            unfold allC
            simp only [fstC]
            rw [if_pos (by omega : checkC l.length a 0 = 0), if_pos (show rangeC l = 0 from by unfold rangeC; exact if_pos fun x hx => hr x (List.mem_append.2 (.inl hx))), if_pos h4]
          obtain ⟨q1, q2, q3, q4⟩ := (allC_zero l a).1 h5
          exact ⟨q1, q2, q3, q4, by omega, by omega, by omega, hr _ (by simp), hr _ (by simp)⟩
        · rw [if_neg h3] at h; exact absurd h h3
  · rintro ⟨q1, q2, q3, q4, q5, q6, q7, q8, q9⟩
    have h5 := (allC_zero l a).2 ⟨q1, q2, q3, q4⟩
    unfold allC at h5
    simp only [fstC] at h5
    have e1 : checkC l.length a 0 = 0 := by unfold checkC; rw [if_neg (by omega), if_neg (by omega)]
    have e2 : rangeC l = 0 := by unfold rangeC; rw [if_pos q3]
    rw [if_pos e1, if_pos e2] at h5
    have e4 : enC l.length a = 0 := by
      by_cases h4 : enC l.length a = 0
      · exact h4
      · rw [if_neg h4] at h5; exact h5
    rw [if_neg (by omega), if_neg (by omega)]
    simp only [fstC]
    rw [if_pos (show rangeC (l ++ [lo, hi]) = 0 from by
      unfold rangeC
      refine if_pos fun x hx => ?_
      rcases List.mem_append.1 hx with h | h
      · exact q3 x h
      · rcases List.mem_cons.1 h with h | h
        · rw [h]; exact q8
        · rcases List.mem_cons.1 h with h | h
          · rw [h]; exact q9
          · cases h), if_pos e4]
theorem ev_Influence (l : List Int) (a i lo hi : Int) (hl : l.length ≤ maxLen) : Ev (fun k => trimmed_Influence.f k l a i lo hi)
    (if inflC l a i lo hi = 0 then ((meanL (l.set i.toNat lo) a).1, (meanL (l.set i.toNat lo) a).2, (meanL (l.set i.toNat hi) a).1, (meanL (l.set i.toNat hi) a).2, 0) else (0, 0, 0, 0, inflC l a i lo hi)) := by
  have hj : ∀ t : Bool, checkC l.length a 0 = 0 → (t = true ↔ (i < 0 ∨ i ≥ (l.length : Int) ∨ lo > hi)) → Ev (fun k => trimmed_Influence.j0 k l a i lo hi t)
      (if inflC l a i lo hi = 0 then ((meanL (l.set i.toNat lo) a).1, (meanL (l.set i.toNat lo) a).2, (meanL (l.set i.toNat hi) a).1, (meanL (l.set i.toNat hi) a).2, 0) else (0, 0, 0, 0, inflC l a i lo hi)) := by
    intro t hc ht
    by_cases h : i < 0 ∨ i ≥ (l.length : Int) ∨ lo > hi
    · have e : inflC l a i lo hi = 1 := by unfold inflC; rw [if_neg (by omega), if_pos h]
      rw [e, if_neg (by decide)]
      refine Ev.step (f := fun k => some (0, 0, 0, 0, 1)) (fun k => ?_) (Ev.now _)
      rw [trimmed_Influence.j0.eq_2, if_pos (ht.2 h)]
    · have e : inflC l a i lo hi = fstC [rangeC (l ++ [lo, hi]), enC l.length a] := by unfold inflC; rw [if_neg (by omega), if_neg h]
      refine Ev.step (f := fun k => (trimmed_ranges.f k l [lo, hi]).bind fun t193 => (trimmed_enough.f (l.length : Int) a).bind fun t194 => (api_Errno.f k [t193, t194]).bind fun t198 => if t198 = 0 then ((trimmed_with.f l i lo).bind fun t199 => ((trimmed_mean.f k t199 a).bind fun bt202 => ((trimmed_with.f l i hi).bind fun t204 => ((trimmed_mean.f k t204 a).bind fun bt207 => (some (bt202.1, bt202.2, bt207.1, bt207.2, 0)))))) else (some (0, 0, 0, 0, t198))) (fun k => ?_) ?_
      · rw [trimmed_Influence.j0.eq_2, if_neg (fun e => h (ht.1 e))]
      · refine Ev.bind (ev_ranges l [lo, hi] hl (by simp [maxLen])) ?_
        simp only [enough_f, Option.bind_some]
        refine Ev.bind (ev_errno _ (by simp)) ?_
        rw [← e]
        by_cases h0 : inflC l a i lo hi = 0
        · obtain ⟨q1, q2, q3, q4, q5, q6, q7, q8, q9⟩ := (inflC_zero l a i lo hi).1 h0
          simp only [if_pos h0, with_f l i lo (by omega) q5 q6, with_f l i hi (by omega) q5 q6, Option.bind_some]
          have m1 := ev_mean (l.set i.toNat lo) a (by rw [List.length_set]; exact q1) q2 (okR_set l q3 _ _ q8) (by rw [List.length_set]; exact q4)
          have m2 := ev_mean (l.set i.toNat hi) a (by rw [List.length_set]; exact q1) q2 (okR_set l q3 _ _ q9) (by rw [List.length_set]; exact q4)
          exact Ev.bind m1 (Ev.bind m2 (Ev.now _))
        · simp only [if_neg h0]
          exact Ev.now _
  unfold trimmed_Influence.f
  refine Ev.bind (ev_check l a 0 hl) ?_
  by_cases hc : checkC l.length a 0 = 0
  · refine Ev.if_pos_ hc ?_
    by_cases h1 : i < 0
    · exact Ev.if_pos_ h1 (hj true hc (by simp; omega))
    · refine Ev.if_neg_ h1 ?_
      by_cases h2 : i ≥ (l.length : Int)
      · exact Ev.if_pos_ h2 (hj true hc (by simp; omega))
      · exact Ev.if_neg_ h2 (hj _ hc (by rw [decide_eq_true_eq]; omega))
  · refine Ev.if_neg_ hc ?_
    have e : inflC l a i lo hi = checkC l.length a 0 := by unfold inflC; rw [if_pos hc]
    rw [e, if_neg hc]
    exact Ev.now _

theorem ev_Kept (l : List Int) (a : Int) (hl : l.length ≤ maxLen) : Ev (fun k => trimmed_Kept.f k l a) (if allC l a = 0 then (keptL l a.toNat, 0) else ([], allC l a)) := by
  unfold trimmed_Kept.f
  refine Ev.bind (ev_all l a hl) ?_
  by_cases h : allC l a = 0
  · obtain ⟨h1, h2, h3, h4⟩ := (allC_zero l a).1 h
    simp only [if_pos h, if_pos (show 0 ≤ a ∧ 2 * a ≤ (l.length : Int) ∧ l.length < 17592186044416 by omega)]
    rw [show ((l.length : Int) - a).toNat = l.length - a.toNat by omega]
    exact Ev.now _
  · simp only [if_neg h]
    exact Ev.now _

def medC (l : List Int) : Int := fstC [checkC l.length 0 0, rangeC l]
theorem ev_Median (l : List Int) (hl : l.length ≤ maxLen) : Ev (fun k => trimmed_Median.f k l)
    (if medC l = 0 then (if (l.length : Int) = 0 then (0, 0, 7) else ((meanL l (((l.length : Int) - 1) / 2)).1, (meanL l (((l.length : Int) - 1) / 2)).2, 0)) else (0, 0, medC l)) := by
  unfold trimmed_Median.f
  refine Ev.bind (ev_check l 0 0 hl) ?_
  have h := ev_ranges l [] hl (by simp)
  rw [List.append_nil] at h
  refine Ev.bind h ?_
  refine Ev.bind (ev_errno _ (by simp)) ?_
  show Ev (fun k => if medC l = 0 then _ else _) _
  by_cases h0 : medC l = 0
  · simp only [if_pos h0]
    by_cases h1 : (l.length : Int) = 0
    · simp only [if_pos h1]; exact Ev.now _
    · simp only [if_neg h1]
      have hm : (l.length : Int) ≤ 1000 ∧ ∀ x ∈ l, okR x := by
        unfold medC at h0
        simp only [fstC] at h0
        by_cases e1 : checkC l.length 0 0 = 0
        · rw [if_pos e1] at h0
          by_cases e2 : rangeC l = 0
          · unfold rangeC at e2
            unfold checkC at e1
            refine ⟨?_, ?_⟩
            · by_cases hq : (l.length : Int) > 1000
              · rw [if_pos (.inl hq)] at e1; exact absurd e1 (by decide)
              · omega
            · by_cases hr : ∀ x ∈ l, okR x
              · exact hr
              · rw [if_neg hr] at e2; exact absurd e2 (by decide)
          · rw [if_neg e2] at h0; exact absurd h0 e2
        · rw [if_neg e1] at h0; exact absurd h0 e1
      have e : wrap64 (Int.tdiv (wrap64 ((l.length : Int) - 1)) 2) = ((l.length : Int) - 1) / 2 := by
        rw [w64 ((l.length : Int) - 1) (by unfold Ri; omega), Int.tdiv_eq_ediv_of_nonneg (by omega), w64 _ (by unfold Ri; omega)]
      rw [e]
      exact Ev.bind (ev_mean l _ hm.1 (by omega) hm.2 (by omega)) (Ev.now _)
  · simp only [if_neg h0]
    exact Ev.now _

/-! ### the order of the marks -/
def ordL (l : List Int) : List Int := (pl_idx l.length).mergeSort (pl_ordLe l)
theorem ordLe_trans (l : List Int) (a b c : Int) : pl_ordLe l a b = true → pl_ordLe l b c = true → pl_ordLe l a c = true := by
  unfold pl_ordLe
  simp only [decide_eq_true_eq]
  omega
theorem ordLe_total (l : List Int) (a b : Int) : (pl_ordLe l a b || pl_ordLe l b a) = true := by
  unfold pl_ordLe
  simp only [Bool.or_eq_true, decide_eq_true_eq]
  omega
theorem ordL_perm (l : List Int) : (ordL l).Perm (pl_idx l.length) := List.mergeSort_perm _ _
theorem ordL_pairwise (l : List Int) : (ordL l).Pairwise fun i j => pl_ordLe l i j = true := List.pairwise_mergeSort (ordLe_trans l) (ordLe_total l) _
theorem ordL_unique (l s : List Int) (h : (pl_idx l.length).Perm s) (hs : s.Pairwise fun i j => pl_ordLe l i j = true) : ordL l = s := by
  refine List.Perm.eq_of_pairwise (le := fun i j => pl_ordLe l i j = true) (fun a b _ _ h1 h2 => ?_) (ordL_pairwise l) hs ((ordL_perm l).trans h)
  unfold pl_ordLe at h1 h2
  simp only [decide_eq_true_eq] at h1 h2
  omega
theorem sortL_unique (l s : List Int) (h : l.Perm s) (hs : s.Pairwise (· ≤ ·)) : sortL l = s :=
  List.Perm.eq_of_pairwise (fun a b _ _ h1 h2 => Int.le_antisymm h1 h2) (sortL_pairwise l) hs ((sortL_perm l).trans h)

theorem ev_concat2 (x y : List Int) (hx : x.length ≤ 100000) (hy : y.length ≤ 100000) : Ev (fun k => slices_Concat_int_int.f k [x, y]) (x ++ y) := by
  unfold slices_Concat_int_int.f
  have hlen : ((([x, y] : List (List Int)).length : Nat) : Int) = 2 := rfl
  rw [hlen]
  have w11 : wrap64 (1 + 1) = 2 := w64 _ (by unfold Ri; omega)
  have w01 : wrap64 (0 + 1) = 1 := w64 _ (by unfold Ri; omega)
  have r0 : rd_L2 [x, y] 0 = x := rfl
  have r1 : rd_L2 [x, y] 1 = y := rfl
  have L2 : Ev (fun k => slices_Concat_int_int.l1 k (x ++ y) [x, y] 2 2) (x ++ y) := by
    refine Ev.step (f := fun _ => some (x ++ y)) (fun k => ?_) (Ev.now _)
    rw [slices_Concat_int_int.l1.eq_2, if_neg (by decide)]
  have L1 : Ev (fun k => slices_Concat_int_int.l1 k x [x, y] 2 1) (x ++ y) := by
    refine Ev.step (f := fun k => slices_Concat_int_int.l1 k (x ++ y) [x, y] 2 2) (fun k => ?_) L2
    rw [slices_Concat_int_int.l1.eq_2, if_pos (by decide), if_pos (by decide), if_pos (by rw [hlen]; decide), r1, if_pos (by omega), w11]
  have L0 : Ev (fun k => slices_Concat_int_int.l1 k [] [x, y] 2 0) (x ++ y) := by
    refine Ev.step (f := fun k => slices_Concat_int_int.l1 k x [x, y] 2 1) (fun k => ?_) L1
    rw [slices_Concat_int_int.l1.eq_2, if_pos (by decide), if_pos (by decide), if_pos (by rw [hlen]; decide), r0, if_pos (by simp; omega), w01, List.nil_append]
  have T2 : Ev (fun k => slices_Concat_int_int.l0 k [x, y] ((x.length : Int) + (y.length : Int)) [x, y] 2 2) (x ++ y) := by
    refine Ev.step (f := fun k => slices_Concat_int_int.l1 k [] [x, y] 2 0) (fun k => ?_) L0
    rw [slices_Concat_int_int.l0.eq_2, if_neg (by decide)]
    unfold slices_Grow_int_int.f
    rw [if_pos (by simp; omega), Option.bind_some]
    rfl
  have T1 : Ev (fun k => slices_Concat_int_int.l0 k [x, y] (x.length : Int) [x, y] 2 1) (x ++ y) := by
    refine Ev.step (f := fun k => slices_Concat_int_int.l0 k [x, y] ((x.length : Int) + (y.length : Int)) [x, y] 2 2) (fun k => ?_) T2
    rw [slices_Concat_int_int.l0.eq_2, if_pos (by decide), if_pos (by decide), if_pos (by rw [hlen]; decide), r1, w64 _ (by unfold Ri; omega), if_neg (by omega), w11]
  refine Ev.step (f := fun k => slices_Concat_int_int.l0 k [x, y] (x.length : Int) [x, y] 2 1) (fun k => ?_) T1
  rw [slices_Concat_int_int.l0.eq_2, if_pos (by decide), if_pos (by decide), if_pos (by rw [hlen]; decide), r0, Int.zero_add, w64 _ (by unfold Ri; omega), if_neg (by omega), w01]

/-- The dropped places. -/
def dropL (l : List Int) (a : Nat) : List Int := sortL ((ordL l).take a ++ (ordL l).drop (l.length - a))
theorem ordL_length (l : List Int) : (ordL l).length = l.length := by rw [(ordL_perm l).length_eq]; simp [pl_idx]
theorem ev_Dropped (l : List Int) (a : Int) (hl : l.length ≤ maxLen) (ho : allC l a = 0 → trimmed_order.f l = some (ordL l)) : Ev (fun k => trimmed_Dropped.f k l a) (if allC l a = 0 then (dropL l a.toNat, 0) else ([], allC l a)) := by
  unfold trimmed_Dropped.f
  refine Ev.bind (ev_all l a hl) ?_
  by_cases h : allC l a = 0
  · obtain ⟨h1, h2, h3, h4⟩ := (allC_zero l a).1 h
    simp only [if_pos h, ho h, Option.bind_some, ordL_length, w64 ((l.length : Int) - a) (by unfold Ri; omega), if_pos h2, if_pos (show a ≤ (l.length : Int) by omega), if_pos (show 0 ≤ (l.length : Int) - a by omega), if_pos (show (l.length : Int) - a ≤ (l.length : Int) by omega)]
    rw [show ((l.length : Int) - a).toNat = l.length - a.toNat by omega]
    refine Ev.bind (ev_concat2 _ _ (by rw [List.length_take, ordL_length]; omega) (by rw [List.length_drop, ordL_length]; omega)) ?_
    have hs : slices_Sort_int_int.f ((ordL l).take a.toNat ++ (ordL l).drop (l.length - a.toNat)) = some (dropL l a.toNat) := by
      unfold slices_Sort_int_int.f
      rw [if_pos (by rw [List.length_append, List.length_take, List.length_drop, ordL_length]; omega)]
      rfl
    simp only [hs, Option.bind_some]
    exact Ev.now _
  · simp only [if_neg h]
    exact Ev.now _

theorem ev_awake : Ev (fun k => salchowlaw28_awake.f k) true := by
  unfold salchowlaw28_awake.f
  simp only [Option.bind_some]
  have s1 : sortL [8000, 9500, 8500, 9000, 7000] = [7000, 8000, 8500, 9000, 9500] := sortL_unique _ _ (by decide) (by decide)
  have s2 : sortL [0, 9500, 8500, 9000, 7000] = [0, 7000, 8500, 9000, 9500] := sortL_unique _ _ (by decide) (by decide)
  have s3 : sortL [10000, 9500, 8500, 9000, 7000] = [7000, 8500, 9000, 9500, 10000] := sortL_unique _ _ (by decide) (by decide)
  have s4 : sortL [1000, 2000, 4000, 9000] = [1000, 2000, 4000, 9000] := sortL_unique _ _ (by decide) (by decide)
  have o1 : ordL [8000, 9500, 8500, 9000, 7000] = [4, 0, 2, 3, 1] := ordL_unique _ _ (by decide) (by decide)
  have s5 : sortL [4, 1] = [1, 4] := sortL_unique _ _ (by decide) (by decide)
  have M1 := ev_Mean [8000, 9500, 8500, 9000, 7000] 1 (by simp [maxLen])
  have D1 := ev_Dropped [8000, 9500, 8500, 9000, 7000] 1 (by simp [maxLen]) (fun _ => if_pos (by decide))
  have I1 := ev_Influence [8000, 9500, 8500, 9000, 7000] 1 0 0 10000 (by simp [maxLen])
  have E1 := ev_Median [1000, 2000, 4000, 9000] (by simp [maxLen])
  have K1 := ev_Kept [1, 2, 3, 4] 2 (by simp [maxLen])
  have e1 : meanL [8000, 9500, 8500, 9000, 7000] 1 = (17, 2) := by
    unfold meanL keptL
    rw [s1]; decide
  have e2 : dropL [8000, 9500, 8500, 9000, 7000] (Int.toNat 1) = [1, 4] := by
    unfold dropL
    rw [o1]; exact s5
  have e3 : meanL (List.set [8000, 9500, 8500, 9000, 7000] (Int.toNat 0) 0) 1 = (49, 6) := by
    show meanL [0, 9500, 8500, 9000, 7000] 1 = _
    unfold meanL keptL
    rw [s2]; decide
  have e4 : meanL (List.set [8000, 9500, 8500, 9000, 7000] (Int.toNat 0) 10000) 1 = (9, 1) := by
    show meanL [10000, 9500, 8500, 9000, 7000] 1 = _
    unfold meanL keptL
    rw [s3]; decide
  have e5 : meanL [1000, 2000, 4000, 9000] ((((([1000, 2000, 4000, 9000] : List Int).length : Nat) : Int) - 1) / 2) = (3, 1) := by
    show meanL [1000, 2000, 4000, 9000] 1 = _
    unfold meanL keptL
    rw [s4]; decide
  rw [if_pos (by decide +kernel), e1] at M1
  rw [if_pos (by decide +kernel), e2] at D1
  rw [if_pos (by decide +kernel), e3, e4] at I1
  rw [if_pos (by decide +kernel), if_neg (by decide), e5] at E1
  rw [if_neg (by decide +kernel)] at K1
  refine Ev.bind M1 (Ev.bind D1 (Ev.bind I1 (Ev.bind E1 (Ev.bind K1 ?_))))
  refine Ev.congr (f := fun _ => some true) (fun k => ?_) (Ev.now _)

  decide +kernel
end Go.Proofs.Ytfldgdkjijianaa.P
