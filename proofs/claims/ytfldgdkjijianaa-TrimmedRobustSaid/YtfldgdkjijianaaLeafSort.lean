/-
  slices.Sort of whole numbers of 64 bits, in the form of a printed function: the row of the call's own holds the sorted list; out of the shelf's contract.
-/
import Derived.Sort.OwnSortedInts
import Derived.Test.YtfldgdkjijianaaLay
import Derived.Test.YtfldgdkjijianaaWArr
import Derived.Test.YtfldgdkjijianaaWMore
namespace Go.Proofs.Ytfldgdkjijianaa.P
open Go.RowKit Go.Sort Go.Proofs.YtfldgdkjijianaaW.PrintWords Go.Proofs.YtfldgdkjijianaaW.PrintLast Go.Proofs.YtfldgdkjijianaaW.PrintMore
set_option linter.unusedVariables false
set_option linter.unusedSimpArgs false

theorem leaf_R_int {k : IntKind} {e base : Nat} {w : World} {ok : Nat → Prop} {v : Value} {xs : List Int} (h : Kd.R (Kd.int k) e w base ok v xs) : (∀ j, v.ownBlock = some j → ok j) ∧ w.ownsRow base e 1 v xs.length (nums k xs) := by
  obtain ⟨h0, inner, ho, hr⟩ := h
  have hi : inner = encs (Value.int k) xs := Kd.reps_encs hr
  subst hi
  exact ⟨h0, ho⟩

theorem leaf_int_R {k : IntKind} {e base : Nat} {w : World} {ok : Nat → Prop} {v : Value} {xs : List Int} (h0 : ∀ j, v.ownBlock = some j → ok j) (ho : w.ownsRow base e 1 v xs.length (nums k xs)) : Kd.R (Kd.int k) e w base ok v xs :=
  ⟨h0, nums k xs, ho, Kd.reps_scalar xs⟩

/-- What a world is behind a sort of one of its rows. -/
theorem leaf_sorted {T : TypeId} {w0 w w' : World} {P : Nat → Prop} {v : Value} {l r : List Int} {g n cap : Nat} {os : Array Obj} (hB : Below w0.heap.size w0 w) (hv : v = .slice (some ⟨g, 0, none⟩) l.length cap)
    (ho : Kd.R (Kd.int .i64) T w w0.heap.size P v l) (hl : r.length = l.length) (hw : w' = grow (putRow (Value.int .i64) (Sort.ahead w n) g 0 r.toArray) os) :
    Kd.R (Kd.int .i64) T w' w0.heap.size (fun k_ => (P k_ ∨ w.heap.size ≤ k_)) v r ∧ Below w0.heap.size w0 w' ∧ Kept w w' (fun k_ => P k_) := by
  obtain ⟨h0, ho⟩ := leaf_R_int ho
  subst hv
  have hPg : P g := h0 g rfl
  rcases ho.2 with ⟨h1, _⟩ | ⟨g', cap', cur, h1, hg, hh, hn, hm, hs, ht⟩
  · cases h1
  · cases h1
    have hgr : w.grownBy w' (some g) := by
      rw [hw]
      exact grownBy_sortedI r.toArray
    have hown : w'.ownsRow w0.heap.size T 1 (.slice (some ⟨g, 0, none⟩) l.length cap) l.length (r.map (Value.int .i64)) := by
      rw [hw]
      exact ownsRow_sortedI hl hg hh hn hm hs
    refine ⟨leaf_int_R (fun j hj => .inl (h0 j hj)) ?_, ?_, ?_⟩
    · rw [hl]
      exact hown
    · exact hB.grown hgr hB.size (fun k hk => by cases hk; exact hg)
    · refine ⟨hgr.size, fun i hi hP => hgr.block i hi (fun e => ?_)⟩
      cases e
      exact hP hPg

def slices_Sort_int64_int64.f (l0 : List Int) : Option (List Int) := if l0.length < 4611686018427387904 then some (l0.mergeSort fun x y => decide (x ≤ y)) else none
theorem slices_Sort_int64_int64.calls (P0_ : Nat → Prop) (u9000_ : Value) (l0 : List Int) (r : List Int) (w0 w : World) (hB : Below w0.heap.size w0 w) (ho0 : Kd.R (Kd.int .i64) 2 w w0.heap.size P0_ u9000_ l0) (h : slices_Sort_int64_int64.f l0 = some r) :
    Calls Try.prog 33 #[u9000_] w fun e w' => e = .returned (.tuple #[]) ∧ Kd.R (Kd.int .i64) 2 w' w0.heap.size (fun k_ => (P0_ k_ ∨ w.heap.size ≤ k_)) u9000_ r ∧ Below w0.heap.size w0 w' ∧ Kept w w' (fun k_ => P0_ k_) := by
  unfold slices_Sort_int64_int64.f at h
  split at h
  · rename_i hsz
    obtain rfl := Option.some.inj h
    rcases (leaf_R_int ho0).2.2 with ⟨h1, h2⟩ | ⟨g, cap, cur, h1, hg, hh, hn, hm, hs, ht⟩
    · obtain rfl := List.eq_nil_of_length_eq_zero h2
      subst h1
      refine (AnyM.slices_Sort_int_none Try.lSortI64 none 0 w).mono ?_
      rintro e w' ⟨rfl, rfl⟩
      exact ⟨rfl, by rw [List.mergeSort_nil]; exact Kd.R_nil _ _ _ _ _, hB, Nat.le_refl _, fun _ _ _ => rfl⟩
    · have hH : Holds (Value.int .i64) w g 0 l0.toArray := holds_of_blockI hh (by rw [Nat.mul_one] at ht; exact ht)
      have hblk : g < w.heap.size := (Array.getElem?_eq_some_iff.1 hh).1
      have hc := AnyM.slices_Sort_int Try.lSortI64 g 0 cap l0 w hH hblk hsz
      subst h1
      refine hc.mono ?_
      rintro e w' ⟨rfl, n, os, hw⟩
      exact ⟨rfl, leaf_sorted hB rfl ho0 (List.length_mergeSort _) hw⟩
  · cases h

def slices_Sort_int_int.f (l0 : List Int) : Option (List Int) := if l0.length < 4611686018427387904 then some (l0.mergeSort fun x y => decide (x ≤ y)) else none
theorem slices_Sort_int_int.calls (P0_ : Nat → Prop) (u9000_ : Value) (l0 : List Int) (r : List Int) (w0 w : World) (hB : Below w0.heap.size w0 w) (ho0 : Kd.R (Kd.int .i64) 3 w w0.heap.size P0_ u9000_ l0) (h : slices_Sort_int_int.f l0 = some r) :
    Calls Try.prog 36 #[u9000_] w fun e w' => e = .returned (.tuple #[]) ∧ Kd.R (Kd.int .i64) 3 w' w0.heap.size (fun k_ => (P0_ k_ ∨ w.heap.size ≤ k_)) u9000_ r ∧ Below w0.heap.size w0 w' ∧ Kept w w' (fun k_ => P0_ k_) := by
  unfold slices_Sort_int_int.f at h
  split at h
  · rename_i hsz
    obtain rfl := Option.some.inj h
    rcases (leaf_R_int ho0).2.2 with ⟨h1, h2⟩ | ⟨g, cap, cur, h1, hg, hh, hn, hm, hs, ht⟩
    · obtain rfl := List.eq_nil_of_length_eq_zero h2
      subst h1
      refine (AnyM.slices_Sort_int_none Try.lSortInt none 0 w).mono ?_
      rintro e w' ⟨rfl, rfl⟩
      exact ⟨rfl, by rw [List.mergeSort_nil]; exact Kd.R_nil _ _ _ _ _, hB, Nat.le_refl _, fun _ _ _ => rfl⟩
    · have hH : Holds (Value.int .i64) w g 0 l0.toArray := holds_of_blockI hh (by rw [Nat.mul_one] at ht; exact ht)
      have hblk : g < w.heap.size := (Array.getElem?_eq_some_iff.1 hh).1
      have hc := AnyM.slices_Sort_int Try.lSortInt g 0 cap l0 w hH hblk hsz
      subst h1
      refine hc.mono ?_
      rintro e w' ⟨rfl, n, os, hw⟩
      exact ⟨rfl, leaf_sorted hB rfl ho0 (List.length_mergeSort _) hw⟩
  · cases h
end Go.Proofs.Ytfldgdkjijianaa.P
