/-
  Plain: what the functions of the trimmed mean tell.
-/
import Derived.Test.YtfldgdkjijianaaPlFrac
import Derived.Test.YtfldgdkjijianaaPlSort
import Derived.Test.YtfldgdkjijianaaPx6
namespace Go.Proofs.Ytfldgdkjijianaa.P
open Go.RowKit Go.Proofs.YtfldgdkjijianaaW.PrintWords Go.Proofs.YtfldgdkjijianaaW.PrintLast
set_option linter.unusedVariables false
set_option linter.unusedSimpArgs false

theorem rd_mid (pre : List Int) (x : Int) (suf : List Int) : rd (pre ++ x :: suf) (pre.length : Int) = x := by
  unfold rd
  rw [Int.toNat_natCast, List.getD_eq_getElem?_getD, List.getElem?_append_right (Nat.le_refl _)]
  simp
theorem Ev.if_pos_ {α : Type} {c : Prop} [Decidable c] {a b : Nat → Option α} {r : α} (h : c) (e : Ev a r) : Ev (fun k => if c then a k else b k) r := by
  simpa only [if_pos h] using e
theorem Ev.if_neg_ {α : Type} {c : Prop} [Decidable c] {a b : Nat → Option α} {r : α} (h : ¬ c) (e : Ev b r) : Ev (fun k => if c then a k else b k) r := by
  simpa only [if_neg h] using e

def fstC : List Int → Int
  | [] => 0
  | x :: l => if x = 0 then fstC l else x
theorem ev_errno_l : ∀ (suf pre : List Int), (pre ++ suf).length < 1000000 → Ev (fun k => api_Errno.l0 k 0 (pre ++ suf) ((pre ++ suf).length : Int) (pre.length : Int)) (fstC suf)
  | [], pre, h => by
    refine Ev.step (f := fun _ => some 0) (fun k => ?_) (Ev.now _)
    rw [api_Errno.l0.eq_2, if_neg (by simp)]
  | x :: suf, pre, h => by
    have hl : (pre ++ x :: suf).length = pre.length + suf.length + 1 := by simp; omega
    have ih := ev_errno_l suf (pre ++ [x]) (by simp at h ⊢; omega)
    rw [List.append_assoc, List.singleton_append] at ih
    by_cases hx : x = 0
    · refine Ev.step (f := fun k => api_Errno.l0 k 0 (pre ++ x :: suf) ((pre ++ x :: suf).length : Int) ((pre ++ [x]).length : Int)) (fun k => ?_) (by rw [fstC, if_pos hx]; exact ih)
      rw [api_Errno.l0.eq_2, if_pos (by omega), if_pos (by omega), if_pos (by omega), rd_mid, if_pos hx, w64 _ (by unfold Ri; omega)]
      simp
    · refine Ev.step (f := fun k => some x) (fun k => ?_) (by rw [fstC, if_neg hx]; exact Ev.now _)
      rw [api_Errno.l0.eq_2, if_pos (by omega), if_pos (by omega), if_pos (by omega), rd_mid, if_neg hx]
theorem ev_errno (l : List Int) (h : l.length < 1000000) : Ev (fun k => api_Errno.f k l) (fstC l) := ev_errno_l l [] (by simpa using h)

def checkC (n a b : Int) : Int := if n > 1000 ∨ (b > 0 ∧ b > 1000 - n) then 6 else if a < 0 ∨ b < 0 then 1 else 0
theorem ev_check (l : List Int) (a b : Int) (hl : l.length ≤ maxLen) : Ev (fun k => trimmed_check.f k l a b) (checkC l.length a b) := by
  unfold maxLen at hl
  have hj : ∀ t : Bool, (t = true ↔ ((l.length : Int) > 1000 ∨ (b > 0 ∧ b > 1000 - (l.length : Int)))) → Ev (fun k => trimmed_check.j0 k a b t) (checkC l.length a b) := by
    intro t ht
    refine Ev.step (f := fun _ => some (checkC l.length a b)) (fun k => ?_) (Ev.now _)
    rw [trimmed_check.j0.eq_2]
    unfold checkC
    by_cases h : (l.length : Int) > 1000 ∨ (b > 0 ∧ b > 1000 - (l.length : Int))
    · rw [if_pos (ht.2 h), if_pos h]
    · rw [if_neg (fun e => h (ht.1 e)), if_neg h]
      by_cases h1 : a < 0
      · rw [if_pos h1, if_pos (.inl h1)]
      · rw [if_neg h1]
        by_cases h2 : b < 0
        · rw [if_pos h2, if_pos (.inr h2)]
        · rw [if_neg h2, if_neg (by omega)]
  unfold trimmed_check.f
  by_cases h1 : (l.length : Int) > 1000
  · exact Ev.if_pos_ h1 (hj true (by simp; omega))
  · refine Ev.if_neg_ h1 ?_
    by_cases h2 : b > 0
    · refine Ev.if_pos_ h2 (hj _ ?_)
      rw [decide_eq_true_eq, w64 _ (by unfold Ri; omega)]
      omega
    · refine Ev.if_neg_ h2 (hj _ ?_)
      simp; omega

def okR (x : Int) : Prop := -1000000 ≤ x ∧ x ≤ 1000000
instance (x : Int) : Decidable (okR x) := by unfold okR; exact inferInstance
theorem inside_f (x : Int) : trimmed_inside.f x = some (decide (okR x)) := by
  unfold trimmed_inside.f
  split
  · congr 1; rw [decide_eq_decide]; unfold okR; omega
  · congr 1; rw [eq_comm, decide_eq_false_iff_not]; unfold okR; omega
def rangeC (l : List Int) : Int := if ∀ x ∈ l, okR x then 0 else 5
theorem rangeC_cons (x : Int) (l : List Int) : rangeC (x :: l) = if okR x then rangeC l else 5 := by
  unfold rangeC
  simp only [List.mem_cons, forall_eq_or_imp]
  by_cases h : okR x <;> simp [h]

theorem ev_ranges_l1 (L : List (List Int)) (i : Int) (r : Int) (hi : Ri (i + 1)) (hr : r = 0 ∨ r = 5) (k0 : Ev (fun k => trimmed_ranges.l0 k L (L.length : Int) (i + 1)) r) :
    ∀ (suf pre : List Int), (pre ++ suf).length ≤ maxLen → Ev (fun k => trimmed_ranges.l1 k L (L.length : Int) i (pre ++ suf) ((pre ++ suf).length : Int) (pre.length : Int)) (if rangeC suf = 0 then r else 5)
  | [], pre, h => by
    refine Ev.step (f := fun k => trimmed_ranges.l0 k L (L.length : Int) (i + 1)) (fun k => ?_) (by simpa [rangeC] using k0)
    rw [trimmed_ranges.l1.eq_2, if_neg (by simp), w64 _ hi]
  | x :: suf, pre, h => by
    have hl : (pre ++ x :: suf).length = pre.length + suf.length + 1 := by simp; omega
    have ih := ev_ranges_l1 L i r hi hr k0 suf (pre ++ [x]) (by simp at h ⊢; omega)
    rw [List.append_assoc, List.singleton_append] at ih
    unfold maxLen at h
    by_cases hx : okR x
    · refine Ev.step (f := fun k => trimmed_ranges.l1 k L (L.length : Int) i (pre ++ x :: suf) ((pre ++ x :: suf).length : Int) ((pre ++ [x]).length : Int)) (fun k => ?_) (by rw [rangeC_cons, if_pos hx]; exact ih)
      rw [trimmed_ranges.l1.eq_2, if_pos (by omega), if_pos (by omega), if_pos (by omega), rd_mid, inside_f, Option.bind_some, if_pos (by simpa using hx), w64 _ (by unfold Ri; omega)]
      simp
    · refine Ev.step (f := fun k => some 5) (fun k => ?_) (by rw [rangeC_cons, if_neg hx, if_neg (by decide)]; exact Ev.now _)
      rw [trimmed_ranges.l1.eq_2, if_pos (by omega), if_pos (by omega), if_pos (by omega), rd_mid, inside_f, Option.bind_some, if_neg (by simpa using hx)]

theorem ev_ranges (l m : List Int) (hl : l.length ≤ maxLen) (hm : m.length ≤ maxLen) : Ev (fun k => trimmed_ranges.f k l m) (rangeC (l ++ m)) := by
  unfold trimmed_ranges.f
  simp only [Option.bind_some]
  have h2 : Ev (fun k => trimmed_ranges.l0 k [l, m] (([l, m] : List (List Int)).length : Int) (1 + 1)) 0 := by
    refine Ev.step (f := fun _ => some 0) (fun k => ?_) (Ev.now _)
    rw [trimmed_ranges.l0.eq_2, if_neg (by simp)]
  have h1 : Ev (fun k => trimmed_ranges.l0 k [l, m] (([l, m] : List (List Int)).length : Int) (0 + 1)) (rangeC m) := by
    refine Ev.step (f := fun k => trimmed_ranges.l1 k [l, m] (([l, m] : List (List Int)).length : Int) 1 m (m.length : Int) 0) (fun k => ?_) ?_
    · rw [trimmed_ranges.l0.eq_2, if_pos (by simp), if_pos (by simp), if_pos (by simp)]
      rfl
    · have h := ev_ranges_l1 [l, m] 1 0 (by unfold Ri; omega) (.inl rfl) h2 m [] (by simpa using hm)
      have e : (if rangeC m = 0 then 0 else 5) = rangeC m := by unfold rangeC; split <;> simp_all
      rw [e] at h
      exact h
  have h0 := ev_ranges_l1 [l, m] 0 (rangeC m) (by unfold Ri; omega) (by unfold rangeC; split <;> simp) h1 l [] (by simpa using hl)
  refine Ev.step (f := fun k => trimmed_ranges.l1 k [l, m] (([l, m] : List (List Int)).length : Int) 0 l (l.length : Int) 0) (fun k => ?_) ?_
  · rw [trimmed_ranges.l0.eq_2, if_pos (by simp), if_pos (by simp), if_pos (by simp)]
    rfl
  · have e : (if rangeC l = 0 then rangeC m else 5) = rangeC (l ++ m) := by
      unfold rangeC
      by_cases h : ∀ x ∈ l, okR x
      · rw [if_pos h, if_pos rfl]
        by_cases h2 : ∀ x ∈ m, okR x
        · rw [if_pos h2, if_pos (fun x hx => (List.mem_append.1 hx).elim (h x) (h2 x))]
        · rw [if_neg h2, if_neg (fun h' => h2 fun x hx => h' x (List.mem_append.2 (.inr hx)))]
      · rw [if_neg h, if_neg (by decide), if_neg (fun h' => h fun x hx => h' x (List.mem_append.2 (.inl hx)))]
    rw [e] at h0
    exact h0

def enC (n a : Int) : Int := if a ≥ n then 7 else if n ≤ wrap64 (2 * a) then 7 else 0
theorem enough_f (n a : Int) : trimmed_enough.f n a = some (enC n a) := by
  unfold trimmed_enough.f enC
  split
  · rfl
  · split <;> rfl
def allC (l : List Int) (a : Int) : Int := fstC [checkC l.length a 0, rangeC l, enC l.length a]
theorem ev_all (l : List Int) (a : Int) (hl : l.length ≤ maxLen) : Ev (fun k => trimmed_all.f k l a) (allC l a) := by
  unfold trimmed_all.f
  refine Ev.bind (ev_check l a 0 hl) ?_
  have h := ev_ranges l [] hl (by simp)
  rw [List.append_nil] at h
  refine Ev.bind h ?_
  simp only [enough_f, Option.bind_some]
  exact Ev.bind (ev_errno _ (by simp)) (Ev.now _)
theorem allC_zero (l : List Int) (a : Int) : allC l a = 0 ↔ (l.length : Int) ≤ 1000 ∧ 0 ≤ a ∧ (∀ x ∈ l, okR x) ∧ 2 * a < l.length := by
  unfold allC
  simp only [fstC]
  constructor
  · intro h
    by_cases h1 : checkC l.length a 0 = 0
    · rw [if_pos h1] at h
      by_cases h2 : rangeC l = 0
      · rw [if_pos h2] at h
        have h3 : enC l.length a = 0 := by
          by_cases h3 : enC l.length a = 0
          · exact h3
          · rw [if_neg h3] at h; exact absurd h h3
        have hr : ∀ x ∈ l, okR x := by
          unfold rangeC at h2
          by_cases hr : ∀ x ∈ l, okR x
          · exact hr
          · rw [if_neg hr] at h2; exact absurd h2 (by decide)
        unfold checkC at h1
        unfold enC at h3
        split at h1
        · exact absurd h1 (by decide)
        · split at h1
          · exact absurd h1 (by decide)
          · split at h3
            · exact absurd h3 (by decide)
            · split at h3
              · exact absurd h3 (by decide)
              · rename_i h4 h5 h6 h7
                rw [w64 _ (by unfold Ri; omega)] at h7
                exact ⟨by omega, by omega, hr, by omega⟩
      · rw [if_neg h2] at h; exact absurd h h2
    · rw [if_neg h1] at h; exact absurd h h1
  · rintro ⟨h1, h2, h3, h4⟩
    have e1 : checkC l.length a 0 = 0 := by unfold checkC; rw [if_neg (by omega), if_neg (by omega)]
    have e2 : rangeC l = 0 := by unfold rangeC; rw [if_pos h3]
    have e3 : enC l.length a = 0 := by unfold enC; rw [if_neg (by omega), w64 _ (by unfold Ri; omega), if_neg (by omega)]
    rw [if_pos e1, if_pos e2, if_pos e3]

theorem ev_mean_l (kept : List Int) (h0 : 0 < kept.length) (h1 : kept.length ≤ 1000) (hk : ∀ x ∈ kept, okR x) : ∀ (suf pre : List Int) (acc : Int), pre ++ suf = kept → -(1000000 * (pre.length : Int)) ≤ acc → acc ≤ 1000000 * (pre.length : Int) →
    Ev (fun k => trimmed_mean.l0 k kept acc (pre ++ suf) ((pre ++ suf).length : Int) (pre.length : Int)) (nrm (acc + sumL suf) (1000 * (kept.length : Int)))
  | [], pre, acc, hp, ha, hb => by
    have hl : pre.length = kept.length := by rw [← hp]; simp
    refine Ev.step (f := fun k => (fraction_Make.f k acc (1000 * (kept.length : Int))).bind fun bt => some (bt.1, bt.2.1)) (fun k => ?_) ?_
    · rw [trimmed_mean.l0.eq_2, if_neg (by simp), w64 _ (by unfold Ri; omega)]
    · rw [sumL, Int.add_zero]
      exact Ev.bind (ev_make_nrm acc (1000 * (kept.length : Int)) (by omega) (by omega) (by omega)) (Ev.now _)
  | x :: suf, pre, acc, hp, ha, hb => by
    have hl : (pre ++ x :: suf).length = pre.length + suf.length + 1 := by simp; omega
    have hl' : kept.length = pre.length + suf.length + 1 := by rw [← hp]; exact hl
    have hx : okR x := hk x (by rw [← hp]; simp)
    unfold okR at hx
    have hpl : (pre ++ [x]).length = pre.length + 1 := by simp
    have ih := ev_mean_l kept h0 h1 hk suf (pre ++ [x]) (acc + x) (by rw [← hp]; simp) (by rw [hpl]; push_cast; omega) (by rw [hpl]; push_cast; omega)
    rw [List.append_assoc, List.singleton_append] at ih
    refine Ev.step (f := fun k => trimmed_mean.l0 k kept (acc + x) (pre ++ x :: suf) ((pre ++ x :: suf).length : Int) ((pre ++ [x]).length : Int)) (fun k => ?_) (by rw [sumL, ← Int.add_assoc]; exact ih)
    rw [trimmed_mean.l0.eq_2, if_pos (by omega), if_pos (by omega), if_pos (by omega), rd_mid, w64 _ (by unfold Ri; omega), w64 _ (by unfold Ri; omega)]
    simp

def meanL (l : List Int) (a : Int) : Int × Int := nrm (sumL (keptL l a.toNat)) (1000 * ((l.length : Int) - 2 * a))
theorem ev_mean (l : List Int) (a : Int) (h1 : (l.length : Int) ≤ 1000) (h2 : 0 ≤ a) (h3 : ∀ x ∈ l, okR x) (h4 : 2 * a < l.length) : Ev (fun k => trimmed_mean.f k l a) (meanL l a) := by
  unfold trimmed_mean.f
  obtain ⟨d, rfl⟩ := Int.eq_ofNat_of_zero_le h2
  rw [show slices_Clone_int64_int64.f l = some l from if_pos (by omega)]
  simp only [Option.bind_some]
  rw [show slices_Sort_int64_int64.f l = some (sortL l) from if_pos (by omega)]
  simp only [Option.bind_some, w64 ((l.length : Int) - (d : Int)) (by unfold Ri; omega)]
  simp only [if_pos h2, if_pos (show (d : Int) ≤ (l.length : Int) - (d : Int) by omega), if_pos (show (l.length : Int) - (d : Int) ≤ (l.length : Int) by omega)]
  have e : ((sortL l).take ((l.length : Int) - (d : Int)).toNat).drop ((d : Int)).toNat = keptL l d := by
    unfold keptL
    rw [show ((l.length : Int) - (d : Int)).toNat = l.length - d by omega, Int.toNat_natCast]
  rw [e]
  have hkl := keptL_length l d (by omega)
  have h := ev_mean_l (keptL l d) (by omega) (by omega) (fun x hx => h3 x (keptL_mem l d x hx)) (keptL l d) [] 0 rfl (by simp) (by simp)
  unfold meanL
  rw [Int.toNat_natCast, ← show (((keptL l d).length : Nat) : Int) = (l.length : Int) - 2 * (d : Int) by omega]
  rw [Int.zero_add] at h
  exact h
theorem meanL_bound (l : List Int) (a : Int) (h1 : (l.length : Int) ≤ 1000) (h2 : 0 ≤ a) (h3 : ∀ x ∈ l, okR x) (h4 : 2 * a < l.length) : (sumL (keptL l a.toNat)).natAbs ≤ 1000000000 := by
  have hkl := keptL_length l a.toNat (by omega)
  have h := sumL_bound 1000000 (by omega) (keptL l a.toNat) (fun x hx => h3 x (keptL_mem l _ x hx))
  omega
theorem meanL_Vd (l : List Int) (a : Int) (h1 : (l.length : Int) ≤ 1000) (h2 : 0 ≤ a) (h3 : ∀ x ∈ l, okR x) (h4 : 2 * a < l.length) : Vd (meanL l a) :=
  nrm_Vd _ _ (by omega) (by have := meanL_bound l a h1 h2 h3 h4; omega) (by omega)
theorem ev_Mean (l : List Int) (a : Int) (hl : l.length ≤ maxLen) : Ev (fun k => trimmed_Mean.f k l a) (if allC l a = 0 then ((meanL l a).1, (meanL l a).2, 0) else (0, 0, allC l a)) := by
  unfold trimmed_Mean.f
  refine Ev.bind (ev_all l a hl) ?_
  by_cases h : allC l a = 0
  · refine Ev.if_pos_ h ?_
    obtain ⟨h1, h2, h3, h4⟩ := (allC_zero l a).1 h
    rw [if_pos h]
    exact Ev.bind (ev_mean l a h1 h2 h3 h4) (Ev.now _)
  · refine Ev.if_neg_ h ?_
    rw [if_neg h]
    exact Ev.now _
theorem with_f (l : List Int) (i v : Int) (hl : l.length < 17592186044416) (h0 : 0 ≤ i) (h1 : i < l.length) : trimmed_with.f l i v = some (l.set i.toNat v) := by
  unfold trimmed_with.f
  rw [show slices_Clone_int64_int64.f l = some l from if_pos hl, Option.bind_some, if_pos h0, if_pos h1]
theorem okR_set (l : List Int) (h : ∀ x ∈ l, okR x) (i : Nat) (v : Int) (hv : okR v) : ∀ x ∈ l.set i v, okR x := by
  intro x hx
  rcases List.mem_or_eq_of_mem_set hx with h1 | h1
  · exact h x h1
  · rw [h1]; exact hv
end Go.Proofs.Ytfldgdkjijianaa.P
