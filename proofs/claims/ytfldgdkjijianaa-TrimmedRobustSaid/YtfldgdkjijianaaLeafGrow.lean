/-
  slices.Grow of a row of the call's own, in the form of a printed function: the same elements, in the row itself or in a new one.
-/
import Derived.Test.YtfldgdkjijianaaLeafSort
namespace Go.Proofs.Ytfldgdkjijianaa.P
open Go.RowKit Go.Sort Go.Proofs.YtfldgdkjijianaaW.PrintWords Go.Proofs.YtfldgdkjijianaaW.PrintLast Go.Proofs.YtfldgdkjijianaaW.PrintMore
set_option linter.unusedVariables false
set_option linter.unusedSimpArgs false

theorem leaf_kept_grow (w : World) (o : Obj) (S : Nat → Prop) : Kept w (w.drew.alloc o) S := by
  refine ⟨by simp, fun i hi _ => ?_⟩
  show (w.drew.heap.push o)[i]? = w.heap[i]?
  rw [Array.getElem?_push]
  rw [if_neg (by show i ≠ w.heap.size; omega)]
  rfl

theorem leaf_R_grown {T : Nat} {w0 w : World} {ok : Nat → Prop} {l : List Int} {cap : Nat} {cells : Array Value} (hB : Below w0.heap.size w0 w) (hok : ∀ j, w.heap.size ≤ j → ok j) (hl : l.length ≤ cap) (hm : cap ≤ maxLen) (hs : cells.size = cap)
    (ht : cells.toList.take l.length = nums .i64 l) : Kd.R (Kd.int .i64) T (w.drew.alloc (.cells cells T)) w0.heap.size ok (.slice (some ⟨w.heap.size, 0, none⟩) l.length cap) l := by
  refine leaf_int_R (fun j hj => hok j (by cases hj; exact Nat.le_refl _)) ⟨by simp [nums], .inr ⟨w.heap.size, cap, cells, rfl, hB.size, ?_, hl, hm, by omega, by rw [Nat.mul_one]; exact ht⟩⟩
  exact heap_alloc_new w.drew (.cells cells T)

def slices_Grow_int_int.f (l0 : List Int) (a1 : Int) : Option (List Int) := if 0 ≤ a1 ∧ (l0.length : Int) + a1 < 17592186044416 then some l0 else none
set_option maxHeartbeats 1000000 in
theorem slices_Grow_int_int.calls (P0_ : Nat → Prop) (u9000_ : Value) (l0 : List Int) (a1 : Int) (r : List Int) (w0 w : World) (hB : Below w0.heap.size w0 w) (ho0 : Kd.R (Kd.int .i64) 3 w w0.heap.size P0_ u9000_ l0) (h : slices_Grow_int_int.f l0 a1 = some r) :
    Calls Try.prog 71 #[u9000_, .int .i64 a1] w fun e w' => ∃ v0_ : Value, e = .returned (v0_) ∧ Kd.R (Kd.int .i64) 3 w' w0.heap.size (fun k_ => (P0_ k_ ∨ w.heap.size ≤ k_)) v0_ r ∧ Below w0.heap.size w0 w' ∧ Kept w w' (fun k_ => P0_ k_) := by
  unfold slices_Grow_int_int.f at h
  split at h
  case isFalse => cases h
  rename_i hc
  obtain ⟨h1, h2⟩ := hc
  obtain rfl := Option.some.inj h
  obtain ⟨n, rfl⟩ := Int.eq_ofNat_of_zero_le h1
  obtain ⟨h0, ho⟩ := leaf_R_int ho0
  obtain ⟨i0, hi, hz⟩ := Option.map_eq_some_iff.1 (show (Try.prog.info? 3).map (fun i => (i.zero, i.size, i.bytes)) = some (some (.int .i64 0), 1, 8) by kernel_rfl)
  simp only [Prod.mk.injEq] at hz
  obtain ⟨hz0, hz1, hz2⟩ := hz
  rcases ho.2 with ⟨rfl, h4⟩ | ⟨g, cap, cur, rfl, hg, hh, hn, hm, hs, ht⟩
  · obtain rfl := List.eq_nil_of_length_eq_zero h4
    rcases Nat.eq_zero_or_pos n with hn | hn
    · subst hn
      refine (Any8.slices_Grow_room Try.lGrowInt none 0 0 0 w (by omega) (by omega) (by omega) (by omega)).mono ?_
      rintro e w' ⟨rfl, rfl⟩
      exact ⟨_, rfl, Kd.R_nil _ _ _ _ _, hB, Nat.le_refl _, fun _ _ _ => rfl⟩
    · refine (Any8.slices_Grow_grow Try.lGrowInt i0 (.int .i64 0) hi hz0 (by rw [hz1]; decide) none 0 0 n [] w (by omega) (by omega) (by rw [hz2]; simp at h2 ⊢; omega) (by simp at h2 ⊢; omega) (by simp) (fun _ => rfl) (fun a h => by cases h)).mono ?_
      rintro e w' ⟨rfl, rfl⟩
      refine ⟨_, rfl, ?_, (hB.drew).alloc (by exact hB.size) _, leaf_kept_grow w _ _⟩
      have hge := grownCap_ge w (0 + n) 0 (Try.lGrowInt_ren.t 25)
      have hle := grownCap_le_maxLen w (0 + n) 0 (Try.lGrowInt_ren.t 25) (by simp only [maxLen]; simp at h2; omega)
      generalize grownCap w (0 + n) 0 (Try.lGrowInt_ren.t 25) = G at hge hle ⊢
      exact leaf_R_grown hB (by intro j hj; right; exact hj) (by simp) hle (by simp [Builtin.zeroCells, Value.cells]; omega) (by simp [nums])
  · by_cases hr : l0.length + n ≤ cap
    · refine (Any8.slices_Grow_room Try.lGrowInt (some ⟨g, 0, none⟩) l0.length cap n w hn (by simp only [maxLen] at hm; omega) (by omega) hr).mono ?_
      rintro e w' ⟨rfl, rfl⟩
      exact ⟨_, rfl, Kd.R_mono ho0 (fun _ hk => .inl hk), hB, Nat.le_refl _, fun _ _ _ => rfl⟩
    · refine (Any8.slices_Grow_grow Try.lGrowInt i0 (.int .i64 0) hi hz0 (by rw [hz1]; decide) (some ⟨g, 0, none⟩) l0.length cap n cur.toList w hn (by omega) (by rw [hz2]; omega) (by omega) (by rw [hz1, ← hs]; simp) (fun h => by cases h) ?hcs).mono ?_
      case hcs =>
        intro a ha j v hv
        cases ha
        rw [add_plain]
        simp only [World.cell?, hh]
        simpa using hv
      rintro e w' ⟨rfl, rfl⟩
      refine ⟨_, rfl, ?_, (hB.drew).alloc (by exact hB.size) _, leaf_kept_grow w _ _⟩
      have hge := grownCap_ge w (l0.length + n) cap (Try.lGrowInt_ren.t 25)
      have hle := grownCap_le_maxLen w (l0.length + n) cap (Try.lGrowInt_ren.t 25) (by simp only [maxLen]; omega)
      generalize grownCap w (l0.length + n) cap (Try.lGrowInt_ren.t 25) = G at hge hle ⊢
      refine leaf_R_grown hB (by intro j hj; right; exact hj) (by omega) hle (by simp [Builtin.zeroCells, Value.cells]; omega) ?_
      simp only [Nat.mul_one] at ht hs
      simp only [Array.toList_append]
      rw [List.append_assoc, List.take_append_of_le_length (by simp; omega)]
      simpa using ht

def slices_Grow_int64_int64.f (l0 : List Int) (a1 : Int) : Option (List Int) := if 0 ≤ a1 ∧ (l0.length : Int) + a1 < 17592186044416 then some l0 else none
set_option maxHeartbeats 1000000 in
theorem slices_Grow_int64_int64.calls (P0_ : Nat → Prop) (u9000_ : Value) (l0 : List Int) (a1 : Int) (r : List Int) (w0 w : World) (hB : Below w0.heap.size w0 w) (ho0 : Kd.R (Kd.int .i64) 2 w w0.heap.size P0_ u9000_ l0) (h : slices_Grow_int64_int64.f l0 a1 = some r) :
    Calls Try.prog 79 #[u9000_, .int .i64 a1] w fun e w' => ∃ v0_ : Value, e = .returned (v0_) ∧ Kd.R (Kd.int .i64) 2 w' w0.heap.size (fun k_ => (P0_ k_ ∨ w.heap.size ≤ k_)) v0_ r ∧ Below w0.heap.size w0 w' ∧ Kept w w' (fun k_ => P0_ k_) := by
  unfold slices_Grow_int64_int64.f at h
  split at h
  case isFalse => cases h
  rename_i hc
  obtain ⟨h1, h2⟩ := hc
  obtain rfl := Option.some.inj h
  obtain ⟨n, rfl⟩ := Int.eq_ofNat_of_zero_le h1
  obtain ⟨h0, ho⟩ := leaf_R_int ho0
  obtain ⟨i0, hi, hz⟩ := Option.map_eq_some_iff.1 (show (Try.prog.info? 2).map (fun i => (i.zero, i.size, i.bytes)) = some (some (.int .i64 0), 1, 8) by kernel_rfl)
  simp only [Prod.mk.injEq] at hz
  obtain ⟨hz0, hz1, hz2⟩ := hz
  rcases ho.2 with ⟨rfl, h4⟩ | ⟨g, cap, cur, rfl, hg, hh, hn, hm, hs, ht⟩
  · obtain rfl := List.eq_nil_of_length_eq_zero h4
    rcases Nat.eq_zero_or_pos n with hn | hn
    · subst hn
      refine (Any8.slices_Grow_room Try.lGrowI64 none 0 0 0 w (by omega) (by omega) (by omega) (by omega)).mono ?_
      rintro e w' ⟨rfl, rfl⟩
      exact ⟨_, rfl, Kd.R_nil _ _ _ _ _, hB, Nat.le_refl _, fun _ _ _ => rfl⟩
    · refine (Any8.slices_Grow_grow Try.lGrowI64 i0 (.int .i64 0) hi hz0 (by rw [hz1]; decide) none 0 0 n [] w (by omega) (by omega) (by rw [hz2]; simp at h2 ⊢; omega) (by simp at h2 ⊢; omega) (by simp) (fun _ => rfl) (fun a h => by cases h)).mono ?_
      rintro e w' ⟨rfl, rfl⟩
      refine ⟨_, rfl, ?_, (hB.drew).alloc (by exact hB.size) _, leaf_kept_grow w _ _⟩
      have hge := grownCap_ge w (0 + n) 0 (Try.lGrowI64_ren.t 25)
      have hle := grownCap_le_maxLen w (0 + n) 0 (Try.lGrowI64_ren.t 25) (by simp only [maxLen]; simp at h2; omega)
      generalize grownCap w (0 + n) 0 (Try.lGrowI64_ren.t 25) = G at hge hle ⊢
      exact leaf_R_grown hB (by intro j hj; right; exact hj) (by simp) hle (by simp [Builtin.zeroCells, Value.cells]; omega) (by simp [nums])
  · by_cases hr : l0.length + n ≤ cap
    · refine (Any8.slices_Grow_room Try.lGrowI64 (some ⟨g, 0, none⟩) l0.length cap n w hn (by simp only [maxLen] at hm; omega) (by omega) hr).mono ?_
      rintro e w' ⟨rfl, rfl⟩
      exact ⟨_, rfl, Kd.R_mono ho0 (fun _ hk => .inl hk), hB, Nat.le_refl _, fun _ _ _ => rfl⟩
    · refine (Any8.slices_Grow_grow Try.lGrowI64 i0 (.int .i64 0) hi hz0 (by rw [hz1]; decide) (some ⟨g, 0, none⟩) l0.length cap n cur.toList w hn (by omega) (by rw [hz2]; omega) (by omega) (by rw [hz1, ← hs]; simp) (fun h => by cases h) ?hcs).mono ?_
      case hcs =>
        intro a ha j v hv
        cases ha
        rw [add_plain]
        simp only [World.cell?, hh]
        simpa using hv
      rintro e w' ⟨rfl, rfl⟩
      refine ⟨_, rfl, ?_, (hB.drew).alloc (by exact hB.size) _, leaf_kept_grow w _ _⟩
      have hge := grownCap_ge w (l0.length + n) cap (Try.lGrowI64_ren.t 25)
      have hle := grownCap_le_maxLen w (l0.length + n) cap (Try.lGrowI64_ren.t 25) (by simp only [maxLen]; omega)
      generalize grownCap w (l0.length + n) cap (Try.lGrowI64_ren.t 25) = G at hge hle ⊢
      refine leaf_R_grown hB (by intro j hj; right; exact hj) (by omega) hle (by simp [Builtin.zeroCells, Value.cells]; omega) ?_
      simp only [Nat.mul_one] at ht hs
      simp only [Array.toList_append]
      rw [List.append_assoc, List.take_append_of_le_length (by simp; omega)]
      simpa using ht

end Go.Proofs.Ytfldgdkjijianaa.P
