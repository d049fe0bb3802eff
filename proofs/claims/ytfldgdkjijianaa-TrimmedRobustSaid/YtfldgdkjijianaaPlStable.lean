/-
  Plain: the insertion sort is stable: under a comparison that agrees with a strict total order wherever a later element is held against an earlier one, it gives the one list that is sorted by that order.
-/
import Derived.Sort.LotA
import Derived.Sort.Row
namespace Go.Proofs.Ytfldgdkjijianaa.P
open Go.Sort
set_option linter.unusedVariables false
variable {α : Type} [Inhabited α]

theorem swp_get (d : Array α) (i j k : Nat) (hi : i < d.size) (hj : j < d.size) : (swp d i j)[k]! = if k = j then d[i]! else if k = i then d[j]! else d[k]! := by
  unfold swp
  by_cases h1 : k = j
  · subst h1
    rw [if_pos rfl, getElem!_set_same _ _ _ (by simpa using hj)]
  · rw [if_neg h1, getElem!_set_other _ _ _ _ h1]
    by_cases h2 : k = i
    · subst h2
      rw [if_pos rfl, getElem!_set_same _ _ _ hi]
    · rw [if_neg h2, getElem!_set_other _ _ _ _ h2]

theorem pl_swp_size (d : Array α) (i j : Nat) : (swp d i j).size = d.size := by simp [swp]

/-- What the inner loop does not reach stays; what held of all that it reaches, holds. -/
theorem insInner_keeps (lt : α → α → Bool) (a : Nat) : ∀ (j : Nat) (d : Array α), j < d.size → (insInner lt a j d).size = d.size ∧ (∀ q, j < q → (insInner lt a j d)[q]! = d[q]!) ∧
    ∀ p : α → Prop, (∀ k, k ≤ j → p d[k]!) → ∀ k, k ≤ j → p (insInner lt a j d)[k]! := by
  intro j
  induction j with
  | zero => intro d hj; exact ⟨rfl, fun _ _ => rfl, fun p h => h⟩
  | succ j ih =>
    intro d hj
    unfold insInner
    split
    · obtain ⟨h1, h2, h3⟩ := ih (swp d (j + 1) j) (by rw [pl_swp_size]; omega)
      refine ⟨by rw [h1, pl_swp_size], fun q hq => ?_, fun p hp k hk => ?_⟩
      · rw [h2 q (by omega), swp_get _ _ _ _ hj (by omega), if_neg (by omega), if_neg (by omega)]
      · by_cases hk2 : k = j + 1
        · subst hk2
          rw [h2 _ (by omega), swp_get _ _ _ _ hj (by omega), if_neg (by omega), if_pos rfl]
          exact hp _ (by omega)
        · refine h3 p (fun k2 hk2 => ?_) k (by omega)
          rw [swp_get _ _ _ _ hj (by omega)]
          split
          · exact hp _ (by omega)
          · split
            · exact hp _ (by omega)
            · exact hp _ (by omega)
    · exact ⟨rfl, fun _ _ => rfl, fun p h => h⟩

theorem insInner_congr (lt lt' : α → α → Bool) (tag : α → Nat) (hag : ∀ x y, tag y < tag x → lt x y = lt' x y) (a : Nat) : ∀ (j : Nat) (d : Array α), j < d.size → (∀ k, k < j → tag d[k]! < tag d[j]!) → insInner lt a j d = insInner lt' a j d := by
  intro j
  induction j with
  | zero => intro d _ _; rfl
  | succ j ih =>
    intro d hj ht
    unfold insInner
    rw [hag _ _ (ht j (by omega))]
    split
    · refine ih _ (by rw [pl_swp_size]; omega) (fun k hk => ?_)
      rw [swp_get _ _ _ _ hj (by omega), swp_get _ _ _ _ hj (by omega), if_neg (by omega), if_neg (by omega), if_pos rfl]
      exact ht k (by omega)
    · rfl

theorem insOuter_congr (lt lt' : α → α → Bool) (tag : α → Nat) (hag : ∀ x y, tag y < tag x → lt x y = lt' x y) (b : Nat) : ∀ (m i : Nat) (d : Array α), b - i = m → b ≤ d.size →
    (∀ p q, p < q → i ≤ q → q < b → tag d[p]! < tag d[q]!) → insOuter lt 0 b i d = insOuter lt' 0 b i d := by
  intro m
  induction m with
  | zero =>
    intro i d hm hb ht
    rw [insOuter, if_neg (by omega)]
    rw [insOuter, if_neg (by omega)]
  | succ m ih =>
    intro i d hm hb ht
    rw [insOuter, if_pos (by omega)]
    conv => rhs; rw [insOuter, if_pos (by omega)]
    rw [insInner_congr lt lt' tag hag 0 i d (by omega) (fun k hk => ht k i hk (Nat.le_refl _) (by omega))]
    obtain ⟨h1, h2, h3⟩ := insInner_keeps lt' 0 i d (by omega)
    refine ih (i + 1) _ (by omega) (by rw [h1]; exact hb) (fun p q hpq hq hqb => ?_)
    rw [h2 q (by omega)]
    by_cases hp : p ≤ i
    · exact h3 (fun x => tag x < tag d[q]!) (fun k hk => ht k q (by omega) (by omega) hqb) p hp
    · rw [h2 p (by omega)]
      exact ht p q hpq (by omega) hqb

/-- The insertion sort of elements whose tags rise: the one sorted list. -/
theorem insertionSort_stable (lt lt' : α → α → Bool) (tag : α → Nat) (hag : ∀ x y, tag y < tag x → lt x y = lt' x y) (hS : SWO lt') (hT : ∀ x y, lt' x y = false → lt' y x = false → x = y) (d : Array α)
    (ht : ∀ p q, p < q → q < d.size → tag d[p]! < tag d[q]!) : (insertionSort lt d 0 d.size).toList = d.toList.mergeSort (fun x y => !lt' y x) := by
  have h : insertionSort lt d 0 d.size = insertionSort lt' d 0 d.size := insOuter_congr lt lt' tag hag d.size _ 1 d rfl (Nat.le_refl _) (fun p q hpq _ hq => ht p q hpq hq)
  rw [h]
  obtain ⟨h1, h2⟩ := insertionSort_holds hS d 0 d.size (Nat.zero_le _) (Nat.le_refl _)
  exact sorted_unique_holds hS hT d _ h1 h2
end Go.Proofs.Ytfldgdkjijianaa.P
