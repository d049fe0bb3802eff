/-
  slices.SortStableFunc of ints with at most 20 elements: the row holds what the insertion sort makes of it, whatever the comparison is that the function value computes.
-/
import Derived.Shelf.SlSortCmp.Insertion1
import Derived.Shelf.SlSortCmp.NoneTotal
import Derived.Test.YtfldgdkjijianaaLay
import Derived.WalkKit
import Derived.KernelRfl
import Derived.Deep.LoopGhost
import Derived.Lib.Hide
import Derived.Outline
namespace Go.Proofs.Ytfldgdkjijianaa.P
open Go.RowKit Go.Sort Go.Lib
set_option linter.unusedVariables false
set_option linter.unusedSimpArgs false
variable {α : Type} [Inhabited α]

theorem insertionSort_none (lt : α → α → Bool) (d : Array α) (a b : Nat) (h : b ≤ a + 1) : Sort.insertionSort lt d a b = d := by
  unfold Sort.insertionSort
  unfold insOuter
  rw [if_neg (by omega)]

theorem swp_size (d : Array α) (i j : Nat) : (swp d i j).size = d.size := by simp [swp]
theorem insInner_size (lt : α → α → Bool) (a j : Nat) : ∀ d : Array α, (insInner lt a j d).size = d.size := by
  induction j with
  | zero => intro d; rfl
  | succ j ih =>
    intro d
    unfold insInner
    split
    · rw [ih, swp_size]
    · rfl
theorem insOuter_size (lt : α → α → Bool) (a b : Nat) : ∀ (m i : Nat) (d : Array α), b - i = m → (insOuter lt a b i d).size = d.size := by
  intro m
  induction m with
  | zero =>
    intro i d h
    rw [insOuter_stop _ _ _ _ _ (by omega)]
  | succ m ih =>
    intro i d h
    rw [insOuter_go _ _ _ _ _ (by omega), ih (i + 1) _ (by omega), insInner_size]
theorem insertionSort_size (lt : α → α → Bool) (d : Array α) (a b : Nat) : (Sort.insertionSort lt d a b).size = d.size := insOuter_size lt a b _ _ d rfl

set_option maxHeartbeats 2000000 in
set_option maxRecDepth 100000 in
/-- stableCmpFunc of fewer than 20 elements. -/
theorem stable_lt20 (enc : α → Value) (cf : α → α → Int) (g : Nat) (cb : Array Value) (blk off cap : Nat) (d : Array α) (w : World)
    (eg : ∀ args w, (callFunc g args).run Try.prog w = .ok (.enter g args) w) (hcmp : CmpLays1 Try.prog g cb enc cf blk off d.size w) (R : Row1 enc w blk off d) (h20 : d.size < 20) :
    Calls Try.prog 98 #[.slice (some ⟨blk, off, none⟩) d.size cap, .int .i64 d.size, .func (.func g) #[] cb] w fun e w' =>
      e = .returned (.tuple #[]) ∧ SW enc w blk off (Sort.insertionSort (ltOf cf) d 0 d.size) w' := by
  have HI : Aside (∀ (a b : Nat), a ≤ b → b ≤ d.size → ∀ W : World, SW enc w blk off d W →
      Calls Try.prog 118 #[.slice (some ⟨blk, off, none⟩) d.size cap, .int .i64 a, .int .i64 b, .func (.func g) #[] cb] W fun e w' => e = .returned (.tuple #[]) ∧ SW enc w blk off (Sort.insertionSort (ltOf cf) d a b) w') :=
    fun (a b : Nat) (hab : a ≤ b) (hb : b ≤ d.size) (W : World) (S : SW enc w blk off d W) => Any.insertionSortCmpFunc_s Try.lInsInt enc cf g cb blk off cap a b d d w W eg hcmp R rfl S hab hb (by omega)
  have HS : Aside _ := SW.start R.hH
  clear eg hcmp R
  generalize hn : d.size = n at *
  have HN := Lib.hid hn
  clear hn
  have t1 : decide ((20 : Int) ≤ (n : Int)) = false := decide_eq_false (by omega)
  have t2 : decide ((20 : Int) < (n : Int)) = false := decide_eq_false (by omega)
  have t3 : ¬ 20 ≤ n := by omega
  have t4 : ¬ 20 < n := by omega
  go_enter Try.func98, Try.ntmps98
  go_wp2
  go_loopg [7, 8] 0 (fun gk va vb wr => va = .int .i64 0 ∧ vb = .int .i64 20 ∧ w = wr)
  case atStart => exact ⟨rfl, rfl, rfl⟩
  case round =>
    obtain ⟨rfl, rfl, hw⟩ := hrel
    subst hw
    go_wp2_with ((go_at_call 118; refine (HI 0 n (by omega) (by omega) _ HS).mono ?_; rintro e w' ⟨rfl, hS⟩; have HS2 : Aside (SW enc w blk off (Sort.insertionSort (ltOf cf) d 0 n) w') := hS; clear hS))
    go_loopg [6] 0 (fun gk2 va2 wr2 => va2 = .int .i64 20 ∧ Aside (SW enc w blk off (Sort.insertionSort (ltOf cf) d 0 n) wr2))
    case atStart => exact ⟨rfl, HS2⟩
    case round =>
      obtain ⟨rfl, HS3⟩ := hrel
      go_wp2
      go_end0
      exact ⟨rfl, HS3⟩

set_option maxHeartbeats 2000000 in
set_option maxRecDepth 100000 in
/-- stableCmpFunc of 20 elements. -/
theorem stable_at20 (enc : α → Value) (cf : α → α → Int) (g : Nat) (cb : Array Value) (blk off cap : Nat) (d : Array α) (w : World)
    (eg : ∀ args w, (callFunc g args).run Try.prog w = .ok (.enter g args) w) (hcmp : CmpLays1 Try.prog g cb enc cf blk off d.size w) (R : Row1 enc w blk off d) (h20 : d.size = 20) :
    Calls Try.prog 98 #[.slice (some ⟨blk, off, none⟩) 20 cap, .int .i64 20, .func (.func g) #[] cb] w fun e w' =>
      e = .returned (.tuple #[]) ∧ SW enc w blk off (Sort.insertionSort (ltOf cf) d 0 20) w' := by
  obtain ⟨d1, hd1⟩ : ∃ d1, d1 = Sort.insertionSort (ltOf cf) d 0 20 := ⟨_, rfl⟩
  have hz1 : d1.size = 20 := by
    have h := (insertionSort_size (ltOf cf) d 0 20)
    rw [hd1, h, h20]
  have HI : Aside (∀ W : World, SW enc w blk off d W →
      Calls Try.prog 118 #[.slice (some ⟨blk, off, none⟩) 20 cap, .int .i64 0, .int .i64 20, .func (.func g) #[] cb] W fun e w' => e = .returned (.tuple #[]) ∧ SW enc w blk off d1 w') := by
    intro W S
    have h := Any.insertionSortCmpFunc_s Try.lInsInt enc cf g cb blk off cap 0 20 d d w W eg hcmp R rfl S (by omega) (by omega) (by omega)
    rw [← hd1, h20] at h
    exact h
  have HJ : Aside (∀ W : World, SW enc w blk off d1 W →
      Calls Try.prog 118 #[.slice (some ⟨blk, off, none⟩) 20 cap, .int .i64 20, .int .i64 20, .func (.func g) #[] cb] W fun e w' => e = .returned (.tuple #[]) ∧ SW enc w blk off d1 w') := by
    intro W S
    have h := Any.insertionSortCmpFunc_s Try.lInsInt enc cf g cb blk off cap 20 20 d d1 w W eg hcmp R (by omega) S (by omega) (by omega) (by omega)
    rw [insertionSort_none _ _ _ _ (by omega), hz1] at h
    exact h
  have HS : Aside _ := SW.start R.hH
  rw [← hd1]
  clear eg hcmp R hz1 hd1 h20
  go_enter Try.func98, Try.ntmps98
  go_wp2
  go_loopg [7, 8] 1 (fun gk va vb wr => (va = .int .i64 0 ∧ vb = .int .i64 20 ∧ w = wr ∧ gk = 1) ∨ (va = .int .i64 20 ∧ vb = .int .i64 40 ∧ Aside (SW enc w blk off d1 wr)))
  case atStart => exact .inl ⟨rfl, rfl, rfl, rfl⟩
  case round =>
    rcases hrel with ⟨rfl, rfl, hw, hg⟩ | ⟨rfl, rfl, HS2⟩
    · subst hw
      subst hg
      go_wp2_with ((go_at_call 118; refine (HI _ HS).mono ?_; rintro e w' ⟨rfl, hS⟩; have HS2 : Aside (SW enc w blk off d1 w') := hS; clear hS))
      go_roundg 0
      case measure => omega
      case rel => exact .inr ⟨rfl, rfl, HS2⟩
    · go_wp2_with ((go_at_call 118; refine (HJ _ HS2).mono ?_; rintro e w' ⟨rfl, hS⟩; have HS3 : Aside (SW enc w blk off d1 w') := hS; clear hS))
      go_loopg [6] 0 (fun gk2 va2 wr2 => va2 = .int .i64 20 ∧ Aside (SW enc w blk off d1 wr2))
      case atStart => exact ⟨rfl, HS3⟩
      case round =>
        obtain ⟨rfl, HS4⟩ := hrel
        go_wp2
        go_end0
        exact ⟨rfl, HS4⟩

set_option maxHeartbeats 1000000 in
set_option maxRecDepth 100000 in
/-- slices.SortStableFunc of no element. -/
theorem sortStable_none (p : Option Addr) (cap : Nat) (fv : Value) (w : World) :
    Calls Try.prog 68 #[.slice p 0 cap, fv] w fun e w' => e = .returned (.tuple #[]) ∧ w = w' := by
  have HI : Aside (∀ W : World, Calls Try.prog 118 #[.slice p 0 cap, .int .i64 0, .int .i64 0, fv] W fun e w' => e = .returned (.tuple #[]) ∧ W = w') :=
    fun W => (AnyF.insertionSortCmpFunc_none Try.lInsInt0 p cap fv W).mono fun _ _ h => ⟨h.1, h.2.symm⟩
  have HC : Aside (∀ W : World, Calls Try.prog 98 #[.slice p 0 cap, .int .i64 0, fv] W fun e w' => e = .returned (.tuple #[]) ∧ W = w') := by
    intro W
    go_enter Try.func98, Try.ntmps98
    go_wp2
    go_loopg [7, 8] 0 (fun gk va vb wr => va = .int .i64 0 ∧ vb = .int .i64 20 ∧ W = wr)
    case atStart => exact ⟨rfl, rfl, rfl⟩
    case round =>
      obtain ⟨rfl, rfl, hw⟩ := hrel
      subst hw
      go_wp2_with ((go_at_call 118; refine (Aside.out HI _).mono ?_; rintro e w' ⟨rfl, rfl⟩))
      go_loopg [6] 0 (fun gk2 va2 wr2 => va2 = .int .i64 20 ∧ W = wr2)
      case atStart => exact ⟨rfl, rfl⟩
      case round =>
        obtain ⟨rfl, hw⟩ := hrel
        subst hw
        go_wp2
        go_end0
        exact ⟨rfl, rfl⟩
  go_enter Try.func68, Try.ntmps68
  go_wp2_with ((go_at_call 98; refine (Aside.out HC _).mono ?_; rintro e w' ⟨rfl, rfl⟩))
  go_end0
  exact ⟨rfl, rfl⟩

set_option maxHeartbeats 1000000 in
set_option maxRecDepth 100000 in
/-- slices.SortStableFunc of at most 20 elements. -/
theorem sortStable_le20 (enc : α → Value) (cf : α → α → Int) (g : Nat) (cb : Array Value) (blk off cap : Nat) (d : Array α) (w : World)
    (eg : ∀ args w, (callFunc g args).run Try.prog w = .ok (.enter g args) w) (hcmp : CmpLays1 Try.prog g cb enc cf blk off d.size w) (R : Row1 enc w blk off d) (h20 : d.size ≤ 20) :
    Calls Try.prog 68 #[.slice (some ⟨blk, off, none⟩) d.size cap, .func (.func g) #[] cb] w fun e w' =>
      e = .returned (.tuple #[]) ∧ SW enc w blk off (Sort.insertionSort (ltOf cf) d 0 d.size) w' := by
  have HC : Aside (Calls Try.prog 98 #[.slice (some ⟨blk, off, none⟩) d.size cap, .int .i64 d.size, .func (.func g) #[] cb] w fun e w' =>
      e = .returned (.tuple #[]) ∧ SW enc w blk off (Sort.insertionSort (ltOf cf) d 0 d.size) w') := by
    by_cases h : d.size = 20
    · have hc := stable_at20 enc cf g cb blk off cap d w eg hcmp R h
      rw [h]
      exact hc
    · exact stable_lt20 enc cf g cb blk off cap d w eg hcmp R (by omega)
  clear eg hcmp R
  generalize hn : d.size = n at *
  have HN := Lib.hid hn
  clear hn
  generalize Sort.insertionSort (ltOf cf) d 0 n = d1 at *
  go_enter Try.func68, Try.ntmps68
  go_wp2_with ((go_at_call 98; refine Calls.mono HC ?_; rintro e w' ⟨rfl, hS⟩; have HS2 : Aside (SW enc w blk off d1 w') := hS; clear hS))
  go_end0
  exact ⟨rfl, HS2⟩
end Go.Proofs.Ytfldgdkjijianaa.P
