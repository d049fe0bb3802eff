/-
  Plain: sorted lists of whole numbers: the place of a number by counting, and what follows for lists that lie below each other.
-/
import Derived.Sort.LotA
namespace Go.Proofs.Ytfldgdkjijianaa.P
set_option linter.unusedVariables false

def sortL (l : List Int) : List Int := l.mergeSort fun x y => decide (x ≤ y)
theorem sortL_perm (l : List Int) : (sortL l).Perm l := List.mergeSort_perm _ _
theorem sortL_length (l : List Int) : (sortL l).length = l.length := List.length_mergeSort _
theorem sortL_pairwise (l : List Int) : (sortL l).Pairwise (· ≤ ·) := by
  have h := List.pairwise_mergeSort (le := fun x y : Int => decide (x ≤ y)) (by intro a b c; simp; omega) (by intro a b; simp; omega) l
  exact h.imp (by intro a b h; simpa using h)

theorem sorted_le_iff (v : Int) : ∀ (s : List Int), s.Pairwise (· ≤ ·) → ∀ i (hi : i < s.length), s[i] ≤ v ↔ i < s.countP (fun x => decide (x ≤ v))
  | [], _, i, hi => by simp at hi
  | x :: s, hs, i, hi => by
    rw [List.pairwise_cons] at hs
    have hcp : (∀ y ∈ s, ¬ y ≤ v) → s.countP (fun x => decide (x ≤ v)) = 0 := by
      intro h
      rw [List.countP_eq_zero]
      intro y hy
      simpa using h y hy
    rw [List.countP_cons]
    cases i with
    | zero =>
      simp only [List.getElem_cons_zero, decide_eq_true_eq]
      by_cases hx : x ≤ v
      · rw [if_pos hx]; simp [hx]
      · rw [if_neg hx, hcp (fun y hy => by have := hs.1 y hy; omega)]
        simp; omega
    | succ i =>
      simp only [List.getElem_cons_succ, decide_eq_true_eq]
      have hi' : i < s.length := by simpa using hi
      rw [sorted_le_iff v s hs.2 i hi']
      by_cases hx : x ≤ v
      · rw [if_pos hx]; omega
      · rw [if_neg hx, hcp (fun y hy => by have := hs.1 y hy; omega)]
        omega

theorem countP_mono_zip (v : Int) : ∀ (l l' : List Int), l.length = l'.length → (∀ i (h : i < l.length) (h' : i < l'.length), l[i] ≤ l'[i]) → l'.countP (fun x => decide (x ≤ v)) ≤ l.countP (fun x => decide (x ≤ v))
  | [], [], _, _ => Nat.le_refl _
  | x :: l, y :: l', hl, h => by
    rw [List.countP_cons, List.countP_cons]
    have h0 := h 0 (by simp) (by simp)
    simp only [List.getElem_cons_zero] at h0
    have ih := countP_mono_zip v l l' (by simpa using hl) (fun i h1 h2 => by
      have := h (i + 1) (by simpa using h1) (by simpa using h2)
      simpa using this)
    simp only [decide_eq_true_eq]
    split <;> split <;> omega
  | [], _ :: _, hl, _ => by simp at hl
  | _ :: _, [], hl, _ => by simp at hl

/-- Sorting keeps 'nowhere greater'. -/
theorem sortL_mono (l l' : List Int) (hl : l.length = l'.length) (h : ∀ i (h : i < l.length) (h' : i < l'.length), l[i] ≤ l'[i]) :
    ∀ i (h : i < (sortL l).length) (h' : i < (sortL l').length), (sortL l)[i] ≤ (sortL l')[i] := by
  intro i h1 h2
  rw [sorted_le_iff _ _ (sortL_pairwise l) i h1]
  have h3 := (sorted_le_iff (sortL l')[i] _ (sortL_pairwise l') i h2).1 (Int.le_refl _)
  rw [(sortL_perm l').countP_eq] at h3
  rw [(sortL_perm l).countP_eq]
  exact Nat.lt_of_lt_of_le h3 (countP_mono_zip _ l l' hl h)

def sumL : List Int → Int
  | [] => 0
  | x :: l => x + sumL l
theorem sumL_append (l l' : List Int) : sumL (l ++ l') = sumL l + sumL l' := by
  induction l with
  | nil => simp [sumL]
  | cons x l ih => simp [sumL, ih]; omega
theorem sumL_perm {l l' : List Int} (h : l.Perm l') : sumL l = sumL l' := by
  induction h with
  | nil => rfl
  | cons x _ ih => simp [sumL, ih]
  | swap x y l => simp [sumL]; omega
  | trans _ _ h1 h2 => rw [h1, h2]
theorem sumL_mono : ∀ (l l' : List Int), l.length = l'.length → (∀ i (h : i < l.length) (h' : i < l'.length), l[i] ≤ l'[i]) → sumL l ≤ sumL l'
  | [], [], _, _ => Int.le_refl _
  | x :: l, y :: l', hl, h => by
    have h0 := h 0 (by simp) (by simp)
    simp only [List.getElem_cons_zero] at h0
    have ih := sumL_mono l l' (by simpa using hl) (fun i h1 h2 => by
      have := h (i + 1) (by simpa using h1) (by simpa using h2)
      simpa using this)
    simp only [sumL]
    omega
  | [], _ :: _, hl, _ => by simp at hl
  | _ :: _, [], hl, _ => by simp at hl
theorem sumL_bound (b : Int) (hb : 0 ≤ b) : ∀ l : List Int, (∀ x ∈ l, -b ≤ x ∧ x ≤ b) → -(b * l.length) ≤ sumL l ∧ sumL l ≤ b * l.length
  | [], _ => by simp [sumL]
  | x :: l, h => by
    have h1 := h x (by simp)
    have ih := sumL_bound b hb l (fun y hy => h y (by simp [hy]))
    simp only [sumL, List.length_cons]
    have e : b * ((l.length + 1 : Nat) : Int) = b * l.length + b := by rw [Int.natCast_add, Int.mul_add]; simp
    rw [e]
    omega
theorem sumL_range (lo hi : Int) : ∀ l : List Int, (∀ x ∈ l, lo ≤ x ∧ x ≤ hi) → lo * l.length ≤ sumL l ∧ sumL l ≤ hi * l.length
  | [], _ => by simp [sumL]
  | x :: l, h => by
    have h1 := h x (by simp)
    have ih := sumL_range lo hi l (fun y hy => h y (by simp [hy]))
    simp only [sumL, List.length_cons]
    have e1 : lo * ((l.length + 1 : Nat) : Int) = lo * l.length + lo := by rw [Int.natCast_add, Int.mul_add]; simp
    have e2 : hi * ((l.length + 1 : Nat) : Int) = hi * l.length + hi := by rw [Int.natCast_add, Int.mul_add]; simp
    rw [e1, e2]
    omega

/-- The numbers that are kept. -/
def keptL (l : List Int) (d : Nat) : List Int := ((sortL l).take (l.length - d)).drop d
theorem keptL_length (l : List Int) (d : Nat) (h : 2 * d ≤ l.length) : (keptL l d).length = l.length - 2 * d := by
  unfold keptL
  rw [List.length_drop, List.length_take, sortL_length]
  omega
theorem keptL_get (l : List Int) (d : Nat) (h : 2 * d ≤ l.length) (i : Nat) (hi : i < (keptL l d).length) : (keptL l d)[i] = (sortL l)[d + i]'(by rw [keptL_length l d h] at hi; rw [sortL_length]; omega) := by
  simp only [keptL, List.getElem_drop, List.getElem_take]
theorem keptL_mono (l l' : List Int) (d : Nat) (hd : 2 * d ≤ l.length) (hl : l.length = l'.length) (h : ∀ i (h : i < l.length) (h' : i < l'.length), l[i] ≤ l'[i]) : sumL (keptL l d) ≤ sumL (keptL l' d) := by
  refine sumL_mono _ _ (by rw [keptL_length l d hd, keptL_length l' d (by omega), hl]) (fun i h1 h2 => ?_)
  rw [keptL_get l d hd i h1, keptL_get l' d (by omega) i h2]
  exact sortL_mono l l' hl h _ _ _
theorem sortL_congr {l l' : List Int} (h : l.Perm l') : sortL l = sortL l' := by
  have h1 : (sortL l).Perm (sortL l') := (sortL_perm l).trans (h.trans (sortL_perm l').symm)
  exact List.Perm.eq_of_pairwise (fun a b _ _ h1 h2 => Int.le_antisymm h1 h2) (sortL_pairwise l) (sortL_pairwise l') h1
theorem keptL_congr {l l' : List Int} (d : Nat) (h : l.Perm l') : keptL l d = keptL l' d := by
  unfold keptL
  rw [sortL_congr h, h.length_eq]
theorem keptL_mem (l : List Int) (d : Nat) (x : Int) (h : x ∈ keptL l d) : x ∈ l := by
  unfold keptL at h
  exact (sortL_perm l).mem_iff.1 (List.mem_of_mem_take (List.mem_of_mem_drop h))
end Go.Proofs.Ytfldgdkjijianaa.P
