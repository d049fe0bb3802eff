-- PRINTED by print.py (a twelfth state) out of the translation. Not trusted: Lean checks it.
import Derived.Test.YtfldgdkjijianaaPx0
import Derived.Test.YtfldgdkjijianaaPx1
import Derived.Test.YtfldgdkjijianaaPx12
import Derived.Test.YtfldgdkjijianaaPx5
namespace Go.Proofs.Ytfldgdkjijianaa.P
open Go.RowKit Go.Proofs.YtfldgdkjijianaaW.PrintWords Go.Proofs.YtfldgdkjijianaaW.PrintLast Go.Proofs.YtfldgdkjijianaaW.PrintMore
attribute [local go_sem] max2_int min2_int max_two min_two max_three min_three max_four min_four   -- for this text's walks alone
set_option linter.unusedVariables false
set_option linter.unusedSimpArgs false

attribute [local go_sem high] eqA31
/-! ### fraction_Cmp: function 24 -/
def fraction_Cmp.j0 : Nat → Bool → Bool → Bool → Int → Int → Int → Int → Option (Int)
  | 0, _, _, _, _, _, _, _ => none
  | k + 1, x5, x6, x12, x382000, x382001, x383000, x383001 => if x12 = true then (some 0) else (if x5 = true then (if x6 = true then (if ((decide (x382000 < 0)) != (decide (x383000 < 0))) = true then (if x382000 < 0 then (some (-1)) else (some 1)) else ((fraction_size.f x382000).bind fun t385 => ((fraction_times.f t385 (IntKind.u64.wrap (x383001))).bind fun bt386 => ((fraction_size.f x383000).bind fun t388 => ((fraction_times.f t388 (IntKind.u64.wrap (x382001))).bind fun bt389 => ((fraction_less.f bt386.1 bt386.2 bt389.1 bt389.2).bind fun t391 => (if (t391 == (decide (x382000 < 0))) = true then (some 1) else (some (-1))))))))) else (some 1)) else (some (-1)))
def fraction_Cmp.f (k : Nat) (a0_0 : Int) (a0_1 : Int) (a1_0 : Int) (a1_1 : Int) : Option (Int) := (fraction_Valid.f k a0_0 a0_1).bind fun t383 => ((fraction_Valid.f k a1_0 a1_1).bind fun t384 => (if t383 = true then (if t384 = true then (fraction_Cmp.j0 k t383 t384 (a0_0 == a1_0 && (a0_1 == a1_1)) a0_0 a0_1 a1_0 a1_1) else (fraction_Cmp.j0 k t383 t384 false a0_0 a0_1 a1_0 a1_1)) else (if t384 = true then (fraction_Cmp.j0 k t383 t384 false a0_0 a0_1 a1_0 a1_1) else (fraction_Cmp.j0 k t383 t384 true a0_0 a0_1 a1_0 a1_1))))
theorem fraction_Cmp.mono_l : ∀ k, (∀ y0 y1 y2 y3 y4 y5 y6, LeO (fraction_Cmp.j0 k y0 y1 y2 y3 y4 y5 y6) (fraction_Cmp.j0 (k + 1) y0 y1 y2 y3 y4 y5 y6))
  | 0 => fun _ _ _ _ _ _ _ r h => by simp [fraction_Cmp.j0] at h
  | k + 1 => by
    have ih0 := fraction_Cmp.mono_l k
    · intro y0 y1 y2 y3 y4 y5 y6
      unfold fraction_Cmp.j0
      repeat' first
      | (with_reducible exact ih0 _ _ _ _ _ _ _)
      | (with_reducible exact fraction_Valid.mono _ _ _)
      | (with_reducible exact LeO.refl _)
      | (with_reducible exact LeO.none _)
      | (with_reducible refine LeO.ite ?_ ?_)
      | (with_reducible refine LeO.bind ?_ (fun _ => ?_))
      | exact ih0 _ _ _ _ _ _ _
      | exact fraction_Valid.mono _ _ _
      | exact LeO.none _
      | refine LeO.ite ?_ ?_
      | refine LeO.bind ?_ (fun _ => ?_)
theorem fraction_Cmp.mono : ∀ a0 a1 a2 a3 k, LeO (fraction_Cmp.f k a0 a1 a2 a3) (fraction_Cmp.f (k + 1) a0 a1 a2 a3) := by
  intro a0 a1 a2 a3 k
  have ih0 := fraction_Cmp.mono_l k
  unfold fraction_Cmp.f
  repeat' first
      | (with_reducible exact ih0 _ _ _ _ _ _ _)
      | (with_reducible exact fraction_Valid.mono _ _ _)
      | (with_reducible exact LeO.refl _)
      | (with_reducible exact LeO.none _)
      | (with_reducible refine LeO.ite ?_ ?_)
      | (with_reducible refine LeO.bind ?_ (fun _ => ?_))
      | exact ih0 _ _ _ _ _ _ _
      | exact fraction_Valid.mono _ _ _
      | exact LeO.none _
      | refine LeO.ite ?_ ?_
      | refine LeO.bind ?_ (fun _ => ?_)
def fraction_Cmp.T12 : Bool × List (List Nat × List Nat) := (true, [([], []), ([0], [0]), ([1], [1]), ([], []), ([3], [3]), ([4], [4]), ([2, 5, 2], [2, 5]), ([], []), ([7], [7]), ([8, 6], [8]), ([], []), ([10], [10]), ([11], [11]), ([9, 12, 9], [9, 12]), ([6, 13, 13], [6, 13]), ([14, 14, 0, 1, 2, 3, 4, 5, 6, 7, 8, 9, 10, 11, 12, 13, 14], [14])])
def fraction_Cmp.B12 : List Nat := [0, 1, 3, 0, 8, 24, 63, 0, 128, 511, 0, 1024, 3072, 8191, 16383, 32767]
theorem fraction_Cmp.tab12 : rtab .any (opsOf Try.f24 12) = fraction_Cmp.T12 := by kernel_rfl
theorem fraction_Cmp.bits12 : waitsOk fraction_Cmp.T12.2 fraction_Cmp.B12 = true := by kernel_rfl
set_option maxHeartbeats 8000000 in
set_option maxRecDepth 100000 in
theorem fraction_Cmp.calls (k : Nat) (a0_0 : Int) (a0_1 : Int) (a1_0 : Int) (a1_1 : Int) (r : Int) (w : World) (h : fraction_Cmp.f k a0_0 a0_1 a1_0 a1_1 = some r) :
    Calls Try.prog 24 #[.agg #[.int .i64 a0_0, .int .i64 a0_1], .agg #[.int .i64 a1_0, .int .i64 a1_1]] w fun e w' => e = .returned (.int .i64 r) ∧ Below w.heap.size w w' := by
  have hu31 := Try.underlying31
  have HB := Aside0.mk (Below.refl w.heap.size w)
  have H : ((fraction_Valid.f k a0_0 a0_1).bind fun t383 => ((fraction_Valid.f k a1_0 a1_1).bind fun t384 => (if t383 = true then (if t384 = true then (fraction_Cmp.j0 k t383 t384 (a0_0 == a1_0 && (a0_1 == a1_1)) a0_0 a0_1 a1_0 a1_1) else (fraction_Cmp.j0 k t383 t384 false a0_0 a0_1 a1_0 a1_1)) else (if t384 = true then (fraction_Cmp.j0 k t383 t384 false a0_0 a0_1 a1_0 a1_1) else (fraction_Cmp.j0 k t383 t384 true a0_0 a0_1 a1_0 a1_1))))) = some r := h
  clear h
  replace H := Option.bind_eq_some_iff.mp H
  obtain ⟨t383, A30, H⟩ := H
  replace H : ((fraction_Valid.f k a1_0 a1_1).bind fun t384 => (if t383 = true then (if t384 = true then (fraction_Cmp.j0 k t383 t384 (a0_0 == a1_0 && (a0_1 == a1_1)) a0_0 a0_1 a1_0 a1_1) else (fraction_Cmp.j0 k t383 t384 false a0_0 a0_1 a1_0 a1_1)) else (if t384 = true then (fraction_Cmp.j0 k t383 t384 false a0_0 a0_1 a1_0 a1_1) else (fraction_Cmp.j0 k t383 t384 true a0_0 a0_1 a1_0 a1_1)))) = some r := H
  have A3 := Aside0.mk A30
  clear A30
  replace H := Option.bind_eq_some_iff.mp H
  obtain ⟨t384, A40, H⟩ := H
  replace H : (if t383 = true then (if t384 = true then (fraction_Cmp.j0 k t383 t384 (a0_0 == a1_0 && (a0_1 == a1_1)) a0_0 a0_1 a1_0 a1_1) else (fraction_Cmp.j0 k t383 t384 false a0_0 a0_1 a1_0 a1_1)) else (if t384 = true then (fraction_Cmp.j0 k t383 t384 false a0_0 a0_1 a1_0 a1_1) else (fraction_Cmp.j0 k t383 t384 true a0_0 a0_1 a1_0 a1_1))) = some r := H
  have A4 := Aside0.mk A40
  clear A40
  have HC5 := Aside0.mk H
  clear H
  go_enter Try.func24, Try.ntmps24
  try go_wp2_with (first | ((with_reducible refine gate_dst (N := 2) rfl ?_); refine box_event ?hg (N := 2) ?hd (cs := #[.int .i64 a0_0, .int .i64 a0_1]) (t := 31) ?hr ?_; (case hd => rfl); (case hg => rfl); (case hr => first | (go_simp; done) | (go_simp; rfl)); intro gb381 hg w6 hbox hb; have n0_ := Aside0.mk (below_step (by repeat (first | (with_reducible first | exact HB.out | apply below_alloc | apply pw_below_drewN | apply below_drew1) | exact HB.out)) hb); have n1_ := Aside0.mk (hbox); have n2_ := Aside0.mk ((by rw [hg]; exact (below_size (by repeat (first | (with_reducible first | exact HB.out | apply below_alloc | apply pw_below_drewN | apply below_drew1) | exact HB.out))) : w.heap.size ≤ gb381)); have n3_ := Aside0.mk ((by rw [hg]; exact (below_size (by repeat (first | (with_reducible first | exact HB.out | apply below_alloc | apply pw_below_drewN | apply below_drew1) | exact HB.out))) : w.heap.size ≤ gb381)); clear HB; have HB := n0_; have BK381 := n1_; have GW381 := n2_; have GE381 := n3_; clear n0_ n1_ n2_ n3_; clear hb hbox hg) | ((with_reducible refine gate_dst (N := 3) rfl ?_); refine box_event ?hg (N := 3) ?hd (cs := #[.int .i64 a1_0, .int .i64 a1_1]) (t := 31) ?hr ?_; (case hd => rfl); (case hg => rfl); (case hr => first | (go_simp; done) | (go_simp; rfl)); intro gb382 hg w7 hbox hb; have n0_ := Aside0.mk (blk_below (g := gb381) (o := .cells #[.int .i64 a0_0, .int .i64 a0_1] 31 (0, 0)) (by (with_reducible repeat (first | refine blk_drewN ?_ _ | refine blk_drew ?_ | refine blk_alloc ?_ _)); exact BK381.out) hb); have n1_ := Aside0.mk (below_step (by repeat (first | (with_reducible first | exact HB.out | apply below_alloc | apply pw_below_drewN | apply below_drew1 | refine below_set ?_ GE381.out) | exact HB.out)) hb); have n2_ := Aside0.mk (hbox); have n3_ := Aside0.mk ((by rw [hg]; exact (below_size (by repeat (first | (with_reducible first | exact HB.out | apply below_alloc | apply pw_below_drewN | apply below_drew1 | refine below_set ?_ GE381.out) | exact HB.out))) : w.heap.size ≤ gb382)); have n4_ := Aside0.mk ((by rw [hg]; exact (below_size (by repeat (first | (with_reducible first | exact HB.out | apply below_alloc | apply pw_below_drewN | apply below_drew1 | refine below_set ?_ GE381.out) | exact HB.out))) : w.heap.size ≤ gb382)); have n5_ := Aside0.mk ((by rw [hg]; exact Nat.ne_of_lt (blk_lt (g := gb381) (o := .cells #[.int .i64 a0_0, .int .i64 a0_1] 31 (0, 0)) (by (with_reducible repeat (first | refine blk_drewN ?_ _ | refine blk_drew ?_ | refine blk_alloc ?_ _)); exact BK381.out)) : gb381 ≠ gb382)); have n6_ := Aside0.mk ((by rw [hg]; exact Nat.ne_of_gt (blk_lt (g := gb381) (o := .cells #[.int .i64 a0_0, .int .i64 a0_1] 31 (0, 0)) (by (with_reducible repeat (first | refine blk_drewN ?_ _ | refine blk_drew ?_ | refine blk_alloc ?_ _)); exact BK381.out)) : gb382 ≠ gb381)); clear BK381; clear HB; have BK381 := n0_; have HB := n1_; have BK382 := n2_; have GW382 := n3_; have GE382 := n4_; have NB381_382 := n5_; have NB382_381 := n6_; clear n0_ n1_ n2_ n3_ n4_ n5_ n6_; clear hb hbox hg))
  have n0_ := Aside0.mk (blk_drew BK381.out)
  have n1_ := Aside0.mk (blk_drew BK382.out)
  have n2_ := Aside0.mk (below_drew1 HB.out)
  clear BK381
  clear BK382
  clear HB
  have BK381 := n0_
  have BK382 := n1_
  have HB := n2_
  clear n0_ n1_ n2_
  refine start_ (n := 6) (S := fun w' => w'.cell? ⟨gb381, 0, none⟩ = some (.int .i64 a0_0) ∧ w'.cell? ⟨gb381, 1, none⟩ = some (.int .i64 a0_1) ∧ w'.cell? ⟨gb382, 0, none⟩ = some (.int .i64 a1_0) ∧ w'.cell? ⟨gb382, 1, none⟩ = some (.int .i64 a1_1)) (ds := []) #[false, false, false, false, false, false] (by kernel_rfl) rfl rfl ⟨(blk_cell BK381.out 0).trans rfl, (blk_cell BK381.out 1).trans rfl, (blk_cell BK382.out 0).trans rfl, (blk_cell BK382.out 1).trans rfl⟩ (fun hHeld => ?_)
  generalize w7.drew = w8 at BK381 BK382 HB hHeld ⊢
  refine take_ (i := 0) (N := some 8) (v := ?_) (a' := ?_) #[true, false, false, false, false, false] rfl rfl (by kernel_rfl) (fun _ _ _ h => h) (Or.inl ⟨by rfl, ?_⟩) hHeld ?_ ?_
  rotate_left
  · rintro w' ⟨s0, s1, s2, s3⟩
    go_simp
    with_reducible rfl
  rotate_left
  · simp only [Act.put, List.setIfInBounds_toArray, List.set_cons_zero, List.set_cons_succ, i64_w, i32_w]
    rfl
  refine take_ (i := 2) (N := some 10) (v := ?_) (a' := ?_) #[true, false, true, false, false, false] rfl rfl (by kernel_rfl) (fun _ _ _ h => h) (Or.inl ⟨by rfl, ?_⟩) hHeld ?_ ?_
  rotate_left
  · rintro w' ⟨s0, s1, s2, s3⟩
    go_simp
    with_reducible rfl
  rotate_left
  · simp only [Act.put, List.setIfInBounds_toArray, List.set_cons_zero, List.set_cons_succ, i64_w, i32_w]
    rfl
  refine one_ (i := 1) (N := some 9) #[true, true, true, false, false, false] rfl rfl (by kernel_rfl) (by decide) (fun K hK => ?_)
  refine goes_ Try.func46 (by kernel_rfl) rfl #[.agg #[.int .i64 a0_0, .int .i64 a0_1]] (by rfl) rfl rfl (by (try simp only [List.map_toArray, List.map_cons, List.map_nil]); first | done | rfl | (simp only [List.length_drop, List.length_take]; rfl)) ?_
  with_reducible refine (fraction_Valid.calls k a0_0 a0_1 t383 _ A3.out).mono ?_
  rintro e w9 ⟨rfl, hb⟩
  refine ⟨_, rfl, ?_⟩
  have n0_ := Aside0.mk (blk_below (g := gb381) (o := .cells #[.int .i64 a0_0, .int .i64 a0_1] 31 (0, 0)) (by (with_reducible repeat (first | refine blk_drewN ?_ _ | refine blk_drew ?_ | refine blk_alloc ?_ _)); exact BK381.out) hb)
  have n1_ := Aside0.mk (blk_below (g := gb382) (o := .cells #[.int .i64 a1_0, .int .i64 a1_1] 31 (0, 0)) (by (with_reducible repeat (first | refine blk_drewN ?_ _ | refine blk_drew ?_ | refine blk_alloc ?_ _)); exact BK382.out) hb)
  have n2_ := Aside0.mk (below_step (by repeat (first | (with_reducible first | exact HB.out | apply below_alloc | apply pw_below_drewN | apply below_drew1 | refine below_set ?_ GE381.out | refine below_set ?_ GE382.out) | exact HB.out)) hb)
  clear BK381
  clear BK382
  clear HB
  have BK381 := n0_
  have BK382 := n1_
  have HB := n2_
  clear n0_ n1_ n2_
  (try clear hb)
  (try clear hb2)
  (try clear hk)
  (try clear hi)
  refine hK.out _ _ ⟨(blk_cell BK381.out 0).trans rfl, (blk_cell BK381.out 1).trans rfl, (blk_cell BK382.out 0).trans rfl, (blk_cell BK382.out 1).trans rfl⟩ (fun hHeld => ?_)
  clear hK K
  refine norm_ (a' := ?_) ?_ ?_
  rotate_left
  · show Act.put _ (some 9) _ = _
    simp only [Act.put, List.setIfInBounds_toArray, List.set_cons_zero, List.set_cons_succ, i64_w, i32_w]
    rfl
  refine one_ (i := 3) (N := some 11) #[true, true, true, true, false, false] rfl rfl (by kernel_rfl) (by decide) (fun K hK => ?_)
  refine goes_ Try.func46 (by kernel_rfl) rfl #[.agg #[.int .i64 a1_0, .int .i64 a1_1]] (by rfl) rfl rfl (by (try simp only [List.map_toArray, List.map_cons, List.map_nil]); first | done | rfl | (simp only [List.length_drop, List.length_take]; rfl)) ?_
  with_reducible refine (fraction_Valid.calls k a1_0 a1_1 t384 _ A4.out).mono ?_
  rintro e w10 ⟨rfl, hb⟩
  refine ⟨_, rfl, ?_⟩
  have n0_ := Aside0.mk (blk_below (g := gb381) (o := .cells #[.int .i64 a0_0, .int .i64 a0_1] 31 (0, 0)) (by (with_reducible repeat (first | refine blk_drewN ?_ _ | refine blk_drew ?_ | refine blk_alloc ?_ _)); exact BK381.out) hb)
  have n1_ := Aside0.mk (blk_below (g := gb382) (o := .cells #[.int .i64 a1_0, .int .i64 a1_1] 31 (0, 0)) (by (with_reducible repeat (first | refine blk_drewN ?_ _ | refine blk_drew ?_ | refine blk_alloc ?_ _)); exact BK382.out) hb)
  have n2_ := Aside0.mk (below_step (by repeat (first | (with_reducible first | exact HB.out | apply below_alloc | apply pw_below_drewN | apply below_drew1 | refine below_set ?_ GE381.out | refine below_set ?_ GE382.out) | exact HB.out)) hb)
  clear BK381
  clear BK382
  clear HB
  have BK381 := n0_
  have BK382 := n1_
  have HB := n2_
  clear n0_ n1_ n2_
  (try clear hb)
  (try clear hb2)
  (try clear hk)
  (try clear hi)
  refine hK.out _ _ ⟨(blk_cell BK381.out 0).trans rfl, (blk_cell BK381.out 1).trans rfl, (blk_cell BK382.out 0).trans rfl, (blk_cell BK382.out 1).trans rfl⟩ (fun hHeld => ?_)
  clear hK K
  refine norm_ (a' := ?_) ?_ ?_
  rotate_left
  · show Act.put _ (some 11) _ = _
    simp only [Act.put, List.setIfInBounds_toArray, List.set_cons_zero, List.set_cons_succ, i64_w, i32_w]
    rfl
  refine pure_ (i := 4) (N := some 5) (v := ?_) (a' := ?_) #[true, true, true, true, true, false] rfl rfl (by kernel_rfl) (fun _ _ _ h => h) (Or.inl ⟨by rfl, ?_⟩) ?_ ?_
  rotate_left
  · intro w'
    go_simp
    with_reducible rfl
  rotate_left
  · simp only [Act.put, List.setIfInBounds_toArray, List.set_cons_zero, List.set_cons_succ, i64_w, i32_w]
    rfl
  refine pure_ (i := 5) (N := some 6) (v := ?_) (a' := ?_) #[true, true, true, true, true, true] rfl rfl (by kernel_rfl) (fun _ _ _ h => h) (Or.inl ⟨by rfl, ?_⟩) ?_ ?_
  rotate_left
  · intro w'
    go_simp
    with_reducible rfl
  rotate_left
  · simp only [Act.put, List.setIfInBounds_toArray, List.set_cons_zero, List.set_cons_succ, i64_w, i32_w]
    rfl
  refine done_ (by kernel_rfl) ?_
  go_upto_region 2 with (fail)
  go_cut [12] (fun v12 wc => ∃ (kq : Nat) (x12_4 : Bool), v12 = .bool x12_4 ∧ Aside0 (fraction_Cmp.j0 kq t383 t384 x12_4 a0_0 a0_1 a1_0 a1_1 = some r) ∧ Aside0 (kq ≤ k) ∧ Aside0 (wc.heap[gb381]? = some (.cells #[.int .i64 a0_0, .int .i64 a0_1] 31 (0, 0))) ∧ Aside0 (wc.heap[gb382]? = some (.cells #[.int .i64 a1_0, .int .i64 a1_1] 31 (0, 0))) ∧ Aside0 (Below w.heap.size w wc))
  case first =>
    have H := HC5.out
    clear HC5
    by_cases c11 : t383 = true
    · subst c11
      have H1 : (if t384 = true then (fraction_Cmp.j0 k true t384 (a0_0 == a1_0 && (a0_1 == a1_1)) a0_0 a0_1 a1_0 a1_1) else (fraction_Cmp.j0 k true t384 false a0_0 a0_1 a1_0 a1_1)) = some r := by rw [if_pos rfl] at H; exact H
      clear H
      have H := H1
      clear H1
      by_cases c12 : t384 = true
      · subst c12
        have H1 : (fraction_Cmp.j0 k true true (a0_0 == a1_0 && (a0_1 == a1_1)) a0_0 a0_1 a1_0 a1_1) = some r := by rw [if_pos rfl] at H; exact H
        clear H
        have H := H1
        clear H1
        have H' := Aside0.mk H
        clear H
        have hnb13 := NB381_382.out
        have hnc13 := NB382_381.out
        have hcz14_0 : w10.cell? ⟨gb381, 0, none⟩ = some (.int .i64 a0_0) := (blk_cell BK381.out 0).trans rfl
        have hcz14_1 : w10.cell? ⟨gb381, 1, none⟩ = some (.int .i64 a0_1) := (blk_cell BK381.out 1).trans rfl
        have hfz14_0 := blk_frozen BK381.out 0
        have hfz14_1 := blk_frozen BK381.out 1
        have hcz15_0 : w10.cell? ⟨gb382, 0, none⟩ = some (.int .i64 a1_0) := (blk_cell BK382.out 0).trans rfl
        have hcz15_1 : w10.cell? ⟨gb382, 1, none⟩ = some (.int .i64 a1_1) := (blk_cell BK382.out 1).trans rfl
        have hfz15_0 := blk_frozen BK382.out 0
        have hfz15_1 := blk_frozen BK382.out 1
        go_wp2
        go_meet
        case rel => exact ⟨_, ((a0_0 == a1_0 && (a0_1 == a1_1))), (by first | rfl | (simp; done) | (simp [*]; done)), H', ⟨by first | omega | exact Nat.le_refl _⟩, ⟨by (with_reducible repeat (first | refine blk_drewN ?_ _ | refine blk_drew ?_ | refine blk_alloc ?_ _)); exact BK381.out⟩, ⟨by (with_reducible repeat (first | refine blk_drewN ?_ _ | refine blk_drew ?_ | refine blk_alloc ?_ _)); exact BK382.out⟩, ⟨by repeat (first | (with_reducible first | exact HB.out | apply below_alloc | apply pw_below_drewN | apply below_drew1 | refine below_set ?_ GE381.out | refine below_set ?_ GE382.out) | exact HB.out)⟩⟩
      · replace c12 := Bool.eq_false_iff.mpr c12
        subst c12
        have H1 : (fraction_Cmp.j0 k true false false a0_0 a0_1 a1_0 a1_1) = some r := by rw [if_neg (show ¬ (false = true) by decide)] at H; exact H
        clear H
        have H := H1
        clear H1
        have H' := Aside0.mk H
        clear H
        go_wp2
        go_meet
        case rel => exact ⟨_, (false), (by first | rfl | (simp; done) | (simp [*]; done)), H', ⟨by first | omega | exact Nat.le_refl _⟩, ⟨by (with_reducible repeat (first | refine blk_drewN ?_ _ | refine blk_drew ?_ | refine blk_alloc ?_ _)); exact BK381.out⟩, ⟨by (with_reducible repeat (first | refine blk_drewN ?_ _ | refine blk_drew ?_ | refine blk_alloc ?_ _)); exact BK382.out⟩, ⟨by repeat (first | (with_reducible first | exact HB.out | apply below_alloc | apply pw_below_drewN | apply below_drew1 | refine below_set ?_ GE381.out | refine below_set ?_ GE382.out) | exact HB.out)⟩⟩
    · replace c11 := Bool.eq_false_iff.mpr c11
      subst c11
      have H1 : (if t384 = true then (fraction_Cmp.j0 k false t384 false a0_0 a0_1 a1_0 a1_1) else (fraction_Cmp.j0 k false t384 true a0_0 a0_1 a1_0 a1_1)) = some r := by rw [if_neg (show ¬ (false = true) by decide)] at H; exact H
      clear H
      have H := H1
      clear H1
      by_cases c16 : t384 = true
      · subst c16
        have H1 : (fraction_Cmp.j0 k false true false a0_0 a0_1 a1_0 a1_1) = some r := by rw [if_pos rfl] at H; exact H
        clear H
        have H := H1
        clear H1
        have H' := Aside0.mk H
        clear H
        go_wp2
        go_meet
        case rel => exact ⟨_, (false), (by first | rfl | (simp; done) | (simp [*]; done)), H', ⟨by first | omega | exact Nat.le_refl _⟩, ⟨by (with_reducible repeat (first | refine blk_drewN ?_ _ | refine blk_drew ?_ | refine blk_alloc ?_ _)); exact BK381.out⟩, ⟨by (with_reducible repeat (first | refine blk_drewN ?_ _ | refine blk_drew ?_ | refine blk_alloc ?_ _)); exact BK382.out⟩, ⟨by repeat (first | (with_reducible first | exact HB.out | apply below_alloc | apply pw_below_drewN | apply below_drew1 | refine below_set ?_ GE381.out | refine below_set ?_ GE382.out) | exact HB.out)⟩⟩
      · replace c16 := Bool.eq_false_iff.mpr c16
        subst c16
        have H1 : (fraction_Cmp.j0 k false false true a0_0 a0_1 a1_0 a1_1) = some r := by rw [if_neg (show ¬ (false = true) by decide)] at H; exact H
        clear H
        have H := H1
        clear H1
        have H' := Aside0.mk H
        clear H
        go_wp2
        go_meet
        case rel => exact ⟨_, (true), (by first | rfl | (simp; done) | (simp [*]; done)), H', ⟨by first | omega | exact Nat.le_refl _⟩, ⟨by (with_reducible repeat (first | refine blk_drewN ?_ _ | refine blk_drew ?_ | refine blk_alloc ?_ _)); exact BK381.out⟩, ⟨by (with_reducible repeat (first | refine blk_drewN ?_ _ | refine blk_drew ?_ | refine blk_alloc ?_ _)); exact BK382.out⟩, ⟨by repeat (first | (with_reducible first | exact HB.out | apply below_alloc | apply pw_below_drewN | apply below_drew1 | refine below_set ?_ GE381.out | refine below_set ?_ GE382.out) | exact HB.out)⟩⟩
  case rest =>
    clear HC5
    try clear c1
    try clear c2
    try clear p2
    try clear c4
    try clear c11
    try clear c12
    try clear c13
    try clear c16
    try clear hcz14_0
    try clear hcz14_1
    try clear hcz15_0
    try clear hcz15_1
    try clear hfz14_0
    try clear hfz14_1
    try clear hfz15_0
    try clear hfz15_1
    obtain ⟨kq, x12_4, rfl, HA, HJ4, BK381, BK382, HB⟩ := hcut
    cases kq with
    | zero => exact absurd HA.out (by simp [fraction_Cmp.j0])
    | succ kj4 =>
      have H := HA.out
      clear HA
      simp only [fraction_Cmp.j0] at H
      by_cases c17 : x12_4 = true
      · subst c17
        have H1 : (some 0) = some r := by rw [if_pos rfl] at H; exact H
        clear H
        have H := H1
        clear H1
        obtain rfl := Option.some.inj H
        go_wp2
        go_ret
        exact ⟨by first | rfl | (simp [errW_none, errW_some] <;> rfl) | (simp [*, errW_none, errW_some] <;> rfl), by repeat (first | (with_reducible first | exact HB.out | apply below_alloc | apply pw_below_drewN | apply below_drew1 | refine below_set ?_ GE381.out | refine below_set ?_ GE382.out) | exact HB.out)⟩
      · replace c17 := Bool.eq_false_iff.mpr c17
        subst c17
        have H1 : (if t383 = true then (if t384 = true then (if ((decide (a0_0 < 0)) != (decide (a1_0 < 0))) = true then (if a0_0 < 0 then (some (-1)) else (some 1)) else ((fraction_size.f a0_0).bind fun t385 => ((fraction_times.f t385 (IntKind.u64.wrap (a1_1))).bind fun bt386 => ((fraction_size.f a1_0).bind fun t388 => ((fraction_times.f t388 (IntKind.u64.wrap (a0_1))).bind fun bt389 => ((fraction_less.f bt386.1 bt386.2 bt389.1 bt389.2).bind fun t391 => (if (t391 == (decide (a0_0 < 0))) = true then (some 1) else (some (-1))))))))) else (some 1)) else (some (-1))) = some r := by rw [if_neg (show ¬ (false = true) by decide)] at H; exact H
        clear H
        have H := H1
        clear H1
        by_cases c18 : t383 = true
        · subst c18
          have H1 : (if t384 = true then (if ((decide (a0_0 < 0)) != (decide (a1_0 < 0))) = true then (if a0_0 < 0 then (some (-1)) else (some 1)) else ((fraction_size.f a0_0).bind fun t385 => ((fraction_times.f t385 (IntKind.u64.wrap (a1_1))).bind fun bt386 => ((fraction_size.f a1_0).bind fun t388 => ((fraction_times.f t388 (IntKind.u64.wrap (a0_1))).bind fun bt389 => ((fraction_less.f bt386.1 bt386.2 bt389.1 bt389.2).bind fun t391 => (if (t391 == (decide (a0_0 < 0))) = true then (some 1) else (some (-1))))))))) else (some 1)) = some r := by rw [if_pos rfl] at H; exact H
          clear H
          have H := H1
          clear H1
          by_cases c19 : t384 = true
          · subst c19
            have H1 : (if ((decide (a0_0 < 0)) != (decide (a1_0 < 0))) = true then (if a0_0 < 0 then (some (-1)) else (some 1)) else ((fraction_size.f a0_0).bind fun t385 => ((fraction_times.f t385 (IntKind.u64.wrap (a1_1))).bind fun bt386 => ((fraction_size.f a1_0).bind fun t388 => ((fraction_times.f t388 (IntKind.u64.wrap (a0_1))).bind fun bt389 => ((fraction_less.f bt386.1 bt386.2 bt389.1 bt389.2).bind fun t391 => (if (t391 == (decide (a0_0 < 0))) = true then (some 1) else (some (-1))))))))) = some r := by rw [if_pos rfl] at H; exact H
            clear H
            have H := H1
            clear H1
            by_cases c20 : ((decide (a0_0 < 0)) != (decide (a1_0 < 0))) = true
            · rw [if_pos c20] at H
              have c20b0 : ((decide (a0_0 < 0)) != (decide (a1_0 < 0))) = true := c20
              (try (have c20b1 : decide ((decide (a0_0 < 0)) = (decide (a1_0 < 0))) = false := by simpa using c20))
              (try (have c20b2 : ((decide (a0_0 < 0)) == (decide (a1_0 < 0))) = false := by simpa using c20))
              (try (have c20b3 : ¬ ((decide (a0_0 < 0)) = (decide (a1_0 < 0))) := by simpa using c20))
              clear c20
              by_cases c21 : a0_0 < 0
              · rw [if_pos c21] at H
                have c21b0 : decide (a0_0 < 0) = true := decide_eq_true c21
                (try (have c21y0_0 : decide (a1_0 < 0) = false := by have h_ := c20b0; rw [c21b0] at h_; simpa using h_))
                clear c21
                obtain rfl := Option.some.inj H
                have hnb22 := NB381_382.out
                have hnc22 := NB382_381.out
                have hcz23_0 : wc.cell? ⟨gb381, 0, none⟩ = some (.int .i64 a0_0) := (blk_cell BK381.out 0).trans rfl
                have hcz23_1 : wc.cell? ⟨gb381, 1, none⟩ = some (.int .i64 a0_1) := (blk_cell BK381.out 1).trans rfl
                have hfz23_0 := blk_frozen BK381.out 0
                have hfz23_1 := blk_frozen BK381.out 1
                have hcz24_0 : wc.cell? ⟨gb382, 0, none⟩ = some (.int .i64 a1_0) := (blk_cell BK382.out 0).trans rfl
                have hcz24_1 : wc.cell? ⟨gb382, 1, none⟩ = some (.int .i64 a1_1) := (blk_cell BK382.out 1).trans rfl
                have hfz24_0 := blk_frozen BK382.out 0
                have hfz24_1 := blk_frozen BK382.out 1
                go_wp2
                go_ret
                exact ⟨by first | rfl | (simp [errW_none, errW_some] <;> rfl) | (simp [*, errW_none, errW_some] <;> rfl), by repeat (first | (with_reducible first | exact HB.out | apply below_alloc | apply pw_below_drewN | apply below_drew1 | refine below_set ?_ GE381.out | refine below_set ?_ GE382.out) | exact HB.out)⟩
              · rw [if_neg c21] at H
                have c21b0 : decide (a0_0 < 0) = false := decide_eq_false c21
                (try (have c21y0_0 : decide (a1_0 < 0) = true := by have h_ := c20b0; rw [c21b0] at h_; simpa using h_))
                clear c21
                obtain rfl := Option.some.inj H
                have hnb25 := NB381_382.out
                have hnc25 := NB382_381.out
                have hcz26_0 : wc.cell? ⟨gb381, 0, none⟩ = some (.int .i64 a0_0) := (blk_cell BK381.out 0).trans rfl
                have hcz26_1 : wc.cell? ⟨gb381, 1, none⟩ = some (.int .i64 a0_1) := (blk_cell BK381.out 1).trans rfl
                have hfz26_0 := blk_frozen BK381.out 0
                have hfz26_1 := blk_frozen BK381.out 1
                have hcz27_0 : wc.cell? ⟨gb382, 0, none⟩ = some (.int .i64 a1_0) := (blk_cell BK382.out 0).trans rfl
                have hcz27_1 : wc.cell? ⟨gb382, 1, none⟩ = some (.int .i64 a1_1) := (blk_cell BK382.out 1).trans rfl
                have hfz27_0 := blk_frozen BK382.out 0
                have hfz27_1 := blk_frozen BK382.out 1
                go_wp2
                go_ret
                exact ⟨by first | rfl | (simp [errW_none, errW_some] <;> rfl) | (simp [*, errW_none, errW_some] <;> rfl), by repeat (first | (with_reducible first | exact HB.out | apply below_alloc | apply pw_below_drewN | apply below_drew1 | refine below_set ?_ GE381.out | refine below_set ?_ GE382.out) | exact HB.out)⟩
            · rw [if_neg c20] at H
              have c20b0 : ((decide (a0_0 < 0)) != (decide (a1_0 < 0))) = false := by simpa using c20
              (try (have c20b1 : decide ((decide (a0_0 < 0)) = (decide (a1_0 < 0))) = true := by simpa using c20))
              (try (have c20b2 : ((decide (a0_0 < 0)) == (decide (a1_0 < 0))) = true := by simpa using c20))
              clear c20
              replace H := Option.bind_eq_some_iff.mp H
              obtain ⟨t385, A280, H⟩ := H
              replace H : ((fraction_times.f t385 (IntKind.u64.wrap (a1_1))).bind fun bt386 => ((fraction_size.f a1_0).bind fun t388 => ((fraction_times.f t388 (IntKind.u64.wrap (a0_1))).bind fun bt389 => ((fraction_less.f bt386.1 bt386.2 bt389.1 bt389.2).bind fun t391 => (if (t391 == (decide (a0_0 < 0))) = true then (some 1) else (some (-1))))))) = some r := H
              have A28 := Aside0.mk A280
              clear A280
              replace H := Option.bind_eq_some_iff.mp H
              obtain ⟨⟨t386, t387⟩, A290, H⟩ := H
              replace H : ((fraction_size.f a1_0).bind fun t388 => ((fraction_times.f t388 (IntKind.u64.wrap (a0_1))).bind fun bt389 => ((fraction_less.f t386 t387 bt389.1 bt389.2).bind fun t391 => (if (t391 == (decide (a0_0 < 0))) = true then (some 1) else (some (-1)))))) = some r := H
              have A29 := Aside0.mk A290
              clear A290
              replace H := Option.bind_eq_some_iff.mp H
              obtain ⟨t388, A300, H⟩ := H
              replace H : ((fraction_times.f t388 (IntKind.u64.wrap (a0_1))).bind fun bt389 => ((fraction_less.f t386 t387 bt389.1 bt389.2).bind fun t391 => (if (t391 == (decide (a0_0 < 0))) = true then (some 1) else (some (-1))))) = some r := H
              have A30 := Aside0.mk A300
              clear A300
              replace H := Option.bind_eq_some_iff.mp H
              obtain ⟨⟨t389, t390⟩, A310, H⟩ := H
              replace H : ((fraction_less.f t386 t387 t389 t390).bind fun t391 => (if (t391 == (decide (a0_0 < 0))) = true then (some 1) else (some (-1)))) = some r := H
              have A31 := Aside0.mk A310
              clear A310
              replace H := Option.bind_eq_some_iff.mp H
              obtain ⟨t391, A320, H⟩ := H
              replace H : (if (t391 == (decide (a0_0 < 0))) = true then (some 1) else (some (-1))) = some r := H
              have A32 := Aside0.mk A320
              clear A320
              by_cases c33 : (t391 == (decide (a0_0 < 0))) = true
              · rw [if_pos c33] at H
                have c33b0 : (t391 == (decide (a0_0 < 0))) = true := c33
                (try (have c33b1 : decide (t391 = (decide (a0_0 < 0))) = true := by simpa using c33))
                (try (have c33b2 : (t391 == (decide (a0_0 < 0))) = true := by simpa using c33))
                clear c33
                obtain rfl := Option.some.inj H
                have hnb34 := NB381_382.out
                have hnc34 := NB382_381.out
                have hcz35_0 : wc.cell? ⟨gb381, 0, none⟩ = some (.int .i64 a0_0) := (blk_cell BK381.out 0).trans rfl
                have hcz35_1 : wc.cell? ⟨gb381, 1, none⟩ = some (.int .i64 a0_1) := (blk_cell BK381.out 1).trans rfl
                have hfz35_0 := blk_frozen BK381.out 0
                have hfz35_1 := blk_frozen BK381.out 1
                have hcz36_0 : wc.cell? ⟨gb382, 0, none⟩ = some (.int .i64 a1_0) := (blk_cell BK382.out 0).trans rfl
                have hcz36_1 : wc.cell? ⟨gb382, 1, none⟩ = some (.int .i64 a1_1) := (blk_cell BK382.out 1).trans rfl
                have hfz36_0 := blk_frozen BK382.out 0
                have hfz36_1 := blk_frozen BK382.out 1
                try go_wp2
                have n0_ := Aside0.mk (blk_drew BK381.out)
                have n1_ := Aside0.mk (blk_drew BK382.out)
                have n2_ := Aside0.mk (below_drew1 HB.out)
                clear BK381
                clear BK382
                clear HB
                have BK381 := n0_
                have BK382 := n1_
                have HB := n2_
                clear n0_ n1_ n2_
                refine start_ (n := 16) (S := fun w' => w'.cell? ⟨gb381, 0, none⟩ = some (.int .i64 a0_0) ∧ w'.cell? ⟨gb381, 1, none⟩ = some (.int .i64 a0_1) ∧ w'.cell? ⟨gb382, 0, none⟩ = some (.int .i64 a1_0) ∧ w'.cell? ⟨gb382, 1, none⟩ = some (.int .i64 a1_1)) (ds := []) #[false, false, false, false, false, false, false, false, false, false, false, false, false, false, false, false] (by kernel_rfl) rfl rfl ⟨(blk_cell BK381.out 0).trans rfl, (blk_cell BK381.out 1).trans rfl, (blk_cell BK382.out 0).trans rfl, (blk_cell BK382.out 1).trans rfl⟩ (fun hHeld => ?_); refine with_tabW fraction_Cmp.tab12 fraction_Cmp.bits12 (fun HT_ HW_ => ?_)
                generalize wc.drew = w37 at BK381 BK382 HB hHeld ⊢
                refine pure_ (i := 0) (N := some 47) (v := ?_) (a' := ?_) #[true, false, false, false, false, false, false, false, false, false, false, false, false, false, false, false] rfl rfl (any_of HT_.out (by kernel_rfl)) (fun _ _ _ h => h) (Or.inl ⟨by rfl, ?_⟩) ?_ ?_
                rotate_left
                · intro w'
                  go_simp
                  with_reducible rfl
                rotate_left
                · simp only [Act.put, List.setIfInBounds_toArray, List.set_cons_zero, List.set_cons_succ, i64_w, i32_w]
                  rfl
                refine pure_ (i := 3) (N := some 50) (v := ?_) (a' := ?_) #[true, false, false, true, false, false, false, false, false, false, false, false, false, false, false, false] rfl rfl (any_of HT_.out (by kernel_rfl)) (fun _ _ _ h => h) (Or.inl ⟨by rfl, ?_⟩) ?_ ?_
                rotate_left
                · intro w'
                  go_simp
                  with_reducible rfl
                rotate_left
                · simp only [Act.put, List.setIfInBounds_toArray, List.set_cons_zero, List.set_cons_succ, i64_w, i32_w]
                  rfl
                refine pure_ (i := 7) (N := some 54) (v := ?_) (a' := ?_) #[true, false, false, true, false, false, false, true, false, false, false, false, false, false, false, false] rfl rfl (any_of HT_.out (by kernel_rfl)) (fun _ _ _ h => h) (Or.inl ⟨by rfl, ?_⟩) ?_ ?_
                rotate_left
                · intro w'
                  go_simp
                  with_reducible rfl
                rotate_left
                · simp only [Act.put, List.setIfInBounds_toArray, List.set_cons_zero, List.set_cons_succ, i64_w, i32_w]
                  rfl
                refine pure_ (i := 10) (N := some 57) (v := ?_) (a' := ?_) #[true, false, false, true, false, false, false, true, false, false, true, false, false, false, false, false] rfl rfl (any_of HT_.out (by kernel_rfl)) (fun _ _ _ h => h) (Or.inl ⟨by rfl, ?_⟩) ?_ ?_
                rotate_left
                · intro w'
                  go_simp
                  with_reducible rfl
                rotate_left
                · simp only [Act.put, List.setIfInBounds_toArray, List.set_cons_zero, List.set_cons_succ, i64_w, i32_w]
                  rfl
                refine take_ (i := 1) (N := some 48) (v := ?_) (a' := ?_) #[true, true, false, true, false, false, false, true, false, false, true, false, false, false, false, false] rfl rfl (take_ofW HT_.out HW_.out (by kernel_rfl)) (fun _ _ _ h => h) (Or.inl ⟨by rfl, ?_⟩) hHeld ?_ ?_
                rotate_left
                · rintro w' ⟨s0, s1, s2, s3⟩
                  go_simp
                  with_reducible rfl
                rotate_left
                · simp only [Act.put, List.setIfInBounds_toArray, List.set_cons_zero, List.set_cons_succ, i64_w, i32_w]
                  rfl
                refine take_ (i := 4) (N := some 51) (v := ?_) (a' := ?_) #[true, true, false, true, true, false, false, true, false, false, true, false, false, false, false, false] rfl rfl (take_ofW HT_.out HW_.out (by kernel_rfl)) (fun _ _ _ h => h) (Or.inl ⟨by rfl, ?_⟩) hHeld ?_ ?_
                rotate_left
                · rintro w' ⟨s0, s1, s2, s3⟩
                  go_simp
                  with_reducible rfl
                rotate_left
                · simp only [Act.put, List.setIfInBounds_toArray, List.set_cons_zero, List.set_cons_succ, i64_w, i32_w]
                  rfl
                refine pure_ (i := 5) (N := some 52) (v := ?_) (a' := ?_) #[true, true, false, true, true, true, false, true, false, false, true, false, false, false, false, false] rfl rfl (any_of HT_.out (by kernel_rfl)) (fun _ _ _ h => h) (Or.inl ⟨by rfl, ?_⟩) ?_ ?_
                rotate_left
                · intro w'
                  go_simp
                  with_reducible rfl
                rotate_left
                · simp only [Act.put, List.setIfInBounds_toArray, List.set_cons_zero, List.set_cons_succ, i64_w, i32_w]
                  rfl
                refine take_ (i := 8) (N := some 55) (v := ?_) (a' := ?_) #[true, true, false, true, true, true, false, true, true, false, true, false, false, false, false, false] rfl rfl (take_ofW HT_.out HW_.out (by kernel_rfl)) (fun _ _ _ h => h) (Or.inl ⟨by rfl, ?_⟩) hHeld ?_ ?_
                rotate_left
                · rintro w' ⟨s0, s1, s2, s3⟩
                  go_simp
                  with_reducible rfl
                rotate_left
                · simp only [Act.put, List.setIfInBounds_toArray, List.set_cons_zero, List.set_cons_succ, i64_w, i32_w]
                  rfl
                refine take_ (i := 11) (N := some 58) (v := ?_) (a' := ?_) #[true, true, false, true, true, true, false, true, true, false, true, true, false, false, false, false] rfl rfl (take_ofW HT_.out HW_.out (by kernel_rfl)) (fun _ _ _ h => h) (Or.inl ⟨by rfl, ?_⟩) hHeld ?_ ?_
                rotate_left
                · rintro w' ⟨s0, s1, s2, s3⟩
                  go_simp
                  with_reducible rfl
                rotate_left
                · simp only [Act.put, List.setIfInBounds_toArray, List.set_cons_zero, List.set_cons_succ, i64_w, i32_w]
                  rfl
                refine pure_ (i := 12) (N := some 59) (v := ?_) (a' := ?_) #[true, true, false, true, true, true, false, true, true, false, true, true, true, false, false, false] rfl rfl (any_of HT_.out (by kernel_rfl)) (fun _ _ _ h => h) (Or.inl ⟨by rfl, ?_⟩) ?_ ?_
                rotate_left
                · intro w'
                  go_simp
                  with_reducible rfl
                rotate_left
                · simp only [Act.put, List.setIfInBounds_toArray, List.set_cons_zero, List.set_cons_succ, i64_w, i32_w]
                  rfl
                refine one_ (i := 2) (N := some 49) #[true, true, true, true, true, true, false, true, true, false, true, true, true, false, false, false] rfl rfl (one_of HT_.out (by kernel_rfl)) (by decide) (fun K hK => ?_)
                refine goes_ Try.func49 (by kernel_rfl) rfl #[.int .i64 a0_0] (by rfl) rfl rfl (by (try simp only [List.map_toArray, List.map_cons, List.map_nil]); first | done | rfl | (simp only [List.length_drop, List.length_take]; rfl)) ?_
                with_reducible refine (fraction_size.calls a0_0 t385 _ A28.out).mono ?_
                rintro e w' ⟨rfl, ⟨nd, rfl⟩⟩
                refine ⟨_, rfl, ?_⟩
                refine hK.out _ _ ⟨(blk_cell BK381.out 0).trans rfl, (blk_cell BK381.out 1).trans rfl, (blk_cell BK382.out 0).trans rfl, (blk_cell BK382.out 1).trans rfl⟩ (fun hHeld => ?_)
                clear hK K
                refine norm_ (a' := ?_) ?_ ?_
                rotate_left
                · show Act.put _ (some 49) _ = _
                  simp only [Act.put, List.setIfInBounds_toArray, List.set_cons_zero, List.set_cons_succ, i64_w, i32_w]
                  rfl
                refine one_ (i := 6) (N := some 53) #[true, true, true, true, true, true, true, true, true, false, true, true, true, false, false, false] rfl rfl (one_of HT_.out (by kernel_rfl)) (by decide) (fun K hK => ?_)
                refine goes_ Try.func48 (by kernel_rfl) rfl #[.int .u64 t385, .int .u64 (IntKind.u64.wrap (a1_1))] (by rfl) rfl rfl (by (try simp only [List.map_toArray, List.map_cons, List.map_nil]); first | done | rfl | (simp only [List.length_drop, List.length_take]; rfl)) ?_
                with_reducible refine (fraction_times.calls t385 (IntKind.u64.wrap (a1_1)) t386 t387 _ A29.out).mono ?_
                rintro e w38 ⟨rfl, hb⟩
                refine ⟨_, rfl, ?_⟩
                have n0_ := Aside0.mk (blk_below (g := gb381) (o := .cells #[.int .i64 a0_0, .int .i64 a0_1] 31 (0, 0)) (by (with_reducible repeat (first | refine blk_drewN ?_ _ | refine blk_drew ?_ | refine blk_alloc ?_ _)); exact BK381.out) hb)
                have n1_ := Aside0.mk (blk_below (g := gb382) (o := .cells #[.int .i64 a1_0, .int .i64 a1_1] 31 (0, 0)) (by (with_reducible repeat (first | refine blk_drewN ?_ _ | refine blk_drew ?_ | refine blk_alloc ?_ _)); exact BK382.out) hb)
                have n2_ := Aside0.mk (below_step (by repeat (first | (with_reducible first | exact HB.out | apply below_alloc | apply pw_below_drewN | apply below_drew1 | refine below_set ?_ GE381.out | refine below_set ?_ GE382.out) | exact HB.out)) hb)
                clear BK381
                clear BK382
                clear HB
                have BK381 := n0_
                have BK382 := n1_
                have HB := n2_
                clear n0_ n1_ n2_
                (try clear hb)
                (try clear hb2)
                (try clear hk)
                (try clear hi)
                refine hK.out _ _ ⟨(blk_cell BK381.out 0).trans rfl, (blk_cell BK381.out 1).trans rfl, (blk_cell BK382.out 0).trans rfl, (blk_cell BK382.out 1).trans rfl⟩ (fun hHeld => ?_)
                clear hK K
                refine norm_ (a' := ?_) ?_ ?_
                rotate_left
                · show Act.put _ (some 53) _ = _
                  simp only [Act.put, List.setIfInBounds_toArray, List.set_cons_zero, List.set_cons_succ, i64_w, i32_w]
                  rfl
                refine one_ (i := 9) (N := some 56) #[true, true, true, true, true, true, true, true, true, true, true, true, true, false, false, false] rfl rfl (one_of HT_.out (by kernel_rfl)) (by decide) (fun K hK => ?_)
                refine goes_ Try.func49 (by kernel_rfl) rfl #[.int .i64 a1_0] (by rfl) rfl rfl (by (try simp only [List.map_toArray, List.map_cons, List.map_nil]); first | done | rfl | (simp only [List.length_drop, List.length_take]; rfl)) ?_
                with_reducible refine (fraction_size.calls a1_0 t388 _ A30.out).mono ?_
                rintro e w' ⟨rfl, ⟨nd, rfl⟩⟩
                refine ⟨_, rfl, ?_⟩
                refine hK.out _ _ ⟨(blk_cell BK381.out 0).trans rfl, (blk_cell BK381.out 1).trans rfl, (blk_cell BK382.out 0).trans rfl, (blk_cell BK382.out 1).trans rfl⟩ (fun hHeld => ?_)
                clear hK K
                refine norm_ (a' := ?_) ?_ ?_
                rotate_left
                · show Act.put _ (some 56) _ = _
                  simp only [Act.put, List.setIfInBounds_toArray, List.set_cons_zero, List.set_cons_succ, i64_w, i32_w]
                  rfl
                refine one_ (i := 13) (N := some 60) #[true, true, true, true, true, true, true, true, true, true, true, true, true, true, false, false] rfl rfl (one_of HT_.out (by kernel_rfl)) (by decide) (fun K hK => ?_)
                refine goes_ Try.func48 (by kernel_rfl) rfl #[.int .u64 t388, .int .u64 (IntKind.u64.wrap (a0_1))] (by rfl) rfl rfl (by (try simp only [List.map_toArray, List.map_cons, List.map_nil]); first | done | rfl | (simp only [List.length_drop, List.length_take]; rfl)) ?_
                with_reducible refine (fraction_times.calls t388 (IntKind.u64.wrap (a0_1)) t389 t390 _ A31.out).mono ?_
                rintro e w39 ⟨rfl, hb⟩
                refine ⟨_, rfl, ?_⟩
                have n0_ := Aside0.mk (blk_below (g := gb381) (o := .cells #[.int .i64 a0_0, .int .i64 a0_1] 31 (0, 0)) (by (with_reducible repeat (first | refine blk_drewN ?_ _ | refine blk_drew ?_ | refine blk_alloc ?_ _)); exact BK381.out) hb)
                have n1_ := Aside0.mk (blk_below (g := gb382) (o := .cells #[.int .i64 a1_0, .int .i64 a1_1] 31 (0, 0)) (by (with_reducible repeat (first | refine blk_drewN ?_ _ | refine blk_drew ?_ | refine blk_alloc ?_ _)); exact BK382.out) hb)
                have n2_ := Aside0.mk (below_step (by repeat (first | (with_reducible first | exact HB.out | apply below_alloc | apply pw_below_drewN | apply below_drew1 | refine below_set ?_ GE381.out | refine below_set ?_ GE382.out) | exact HB.out)) hb)
                clear BK381
                clear BK382
                clear HB
                have BK381 := n0_
                have BK382 := n1_
                have HB := n2_
                clear n0_ n1_ n2_
                (try clear hb)
                (try clear hb2)
                (try clear hk)
                (try clear hi)
                refine hK.out _ _ ⟨(blk_cell BK381.out 0).trans rfl, (blk_cell BK381.out 1).trans rfl, (blk_cell BK382.out 0).trans rfl, (blk_cell BK382.out 1).trans rfl⟩ (fun hHeld => ?_)
                clear hK K
                refine norm_ (a' := ?_) ?_ ?_
                rotate_left
                · show Act.put _ (some 60) _ = _
                  simp only [Act.put, List.setIfInBounds_toArray, List.set_cons_zero, List.set_cons_succ, i64_w, i32_w]
                  rfl
                refine one_ (i := 14) (N := some 61) #[true, true, true, true, true, true, true, true, true, true, true, true, true, true, true, false] rfl rfl (one_of HT_.out (by kernel_rfl)) (by decide) (fun K hK => ?_)
                refine goes_ Try.func47 (by kernel_rfl) rfl #[.agg #[.int .u64 t386, .int .u64 t387], .agg #[.int .u64 t389, .int .u64 t390]] (by rfl) rfl rfl (by (try simp only [List.map_toArray, List.map_cons, List.map_nil]); first | done | rfl | (simp only [List.length_drop, List.length_take]; rfl)) ?_
                with_reducible refine (fraction_less.calls t386 t387 t389 t390 t391 _ A32.out).mono ?_
                rintro e w40 ⟨rfl, hb⟩
                refine ⟨_, rfl, ?_⟩
                have n0_ := Aside0.mk (blk_below (g := gb381) (o := .cells #[.int .i64 a0_0, .int .i64 a0_1] 31 (0, 0)) (by (with_reducible repeat (first | refine blk_drewN ?_ _ | refine blk_drew ?_ | refine blk_alloc ?_ _)); exact BK381.out) hb)
                have n1_ := Aside0.mk (blk_below (g := gb382) (o := .cells #[.int .i64 a1_0, .int .i64 a1_1] 31 (0, 0)) (by (with_reducible repeat (first | refine blk_drewN ?_ _ | refine blk_drew ?_ | refine blk_alloc ?_ _)); exact BK382.out) hb)
                have n2_ := Aside0.mk (below_step (by repeat (first | (with_reducible first | exact HB.out | apply below_alloc | apply pw_below_drewN | apply below_drew1 | refine below_set ?_ GE381.out | refine below_set ?_ GE382.out) | exact HB.out)) hb)
                clear BK381
                clear BK382
                clear HB
                have BK381 := n0_
                have BK382 := n1_
                have HB := n2_
                clear n0_ n1_ n2_
                (try clear hb)
                (try clear hb2)
                (try clear hk)
                (try clear hi)
                refine hK.out _ _ ⟨(blk_cell BK381.out 0).trans rfl, (blk_cell BK381.out 1).trans rfl, (blk_cell BK382.out 0).trans rfl, (blk_cell BK382.out 1).trans rfl⟩ (fun hHeld => ?_)
                clear hK K
                refine norm_ (a' := ?_) ?_ ?_
                rotate_left
                · show Act.put _ (some 61) _ = _
                  simp only [Act.put, List.setIfInBounds_toArray, List.set_cons_zero, List.set_cons_succ, i64_w, i32_w]
                  rfl
                refine pure_ (i := 15) (N := some 7) (v := ?_) (a' := ?_) #[true, true, true, true, true, true, true, true, true, true, true, true, true, true, true, true] rfl rfl (any_of HT_.out (by kernel_rfl)) (fun _ _ _ h => h) (Or.inl ⟨by rfl, ?_⟩) ?_ ?_
                rotate_left
                · intro w'
                  go_simp
                  with_reducible rfl
                rotate_left
                · simp only [Act.put, List.setIfInBounds_toArray, List.set_cons_zero, List.set_cons_succ, i64_w, i32_w]
                  rfl
                refine done_ (done_of HT_.out (by kernel_rfl)) ?_
                have hcz41_0 : w40.cell? ⟨gb381, 0, none⟩ = some (.int .i64 a0_0) := (blk_cell BK381.out 0).trans rfl
                have hcz41_1 : w40.cell? ⟨gb381, 1, none⟩ = some (.int .i64 a0_1) := (blk_cell BK381.out 1).trans rfl
                have hfz41_0 := blk_frozen BK381.out 0
                have hfz41_1 := blk_frozen BK381.out 1
                try go_wp2
                go_ret
                exact ⟨by first | rfl | (simp [errW_none, errW_some] <;> rfl) | (simp [*, errW_none, errW_some] <;> rfl), by repeat (first | (with_reducible first | exact HB.out | apply below_alloc | apply pw_below_drewN | apply below_drew1 | refine below_set ?_ GE381.out | refine below_set ?_ GE382.out) | exact HB.out)⟩
              · rw [if_neg c33] at H
                have c33b0 : (t391 == (decide (a0_0 < 0))) = false := by simpa using c33
                (try (have c33b1 : decide (t391 = (decide (a0_0 < 0))) = false := by simpa using c33))
                (try (have c33b2 : (t391 == (decide (a0_0 < 0))) = false := by simpa using c33))
                (try (have c33b3 : ¬ (t391 = (decide (a0_0 < 0))) := by simpa using c33))
                clear c33
                obtain rfl := Option.some.inj H
                have hnb42 := NB381_382.out
                have hnc42 := NB382_381.out
                have hcz43_0 : wc.cell? ⟨gb381, 0, none⟩ = some (.int .i64 a0_0) := (blk_cell BK381.out 0).trans rfl
                have hcz43_1 : wc.cell? ⟨gb381, 1, none⟩ = some (.int .i64 a0_1) := (blk_cell BK381.out 1).trans rfl
                have hfz43_0 := blk_frozen BK381.out 0
                have hfz43_1 := blk_frozen BK381.out 1
                have hcz44_0 : wc.cell? ⟨gb382, 0, none⟩ = some (.int .i64 a1_0) := (blk_cell BK382.out 0).trans rfl
                have hcz44_1 : wc.cell? ⟨gb382, 1, none⟩ = some (.int .i64 a1_1) := (blk_cell BK382.out 1).trans rfl
                have hfz44_0 := blk_frozen BK382.out 0
                have hfz44_1 := blk_frozen BK382.out 1
                try go_wp2
                have n0_ := Aside0.mk (blk_drew BK381.out)
                have n1_ := Aside0.mk (blk_drew BK382.out)
                have n2_ := Aside0.mk (below_drew1 HB.out)
                clear BK381
                clear BK382
                clear HB
                have BK381 := n0_
                have BK382 := n1_
                have HB := n2_
                clear n0_ n1_ n2_
                refine start_ (n := 16) (S := fun w' => w'.cell? ⟨gb381, 0, none⟩ = some (.int .i64 a0_0) ∧ w'.cell? ⟨gb381, 1, none⟩ = some (.int .i64 a0_1) ∧ w'.cell? ⟨gb382, 0, none⟩ = some (.int .i64 a1_0) ∧ w'.cell? ⟨gb382, 1, none⟩ = some (.int .i64 a1_1)) (ds := []) #[false, false, false, false, false, false, false, false, false, false, false, false, false, false, false, false] (by kernel_rfl) rfl rfl ⟨(blk_cell BK381.out 0).trans rfl, (blk_cell BK381.out 1).trans rfl, (blk_cell BK382.out 0).trans rfl, (blk_cell BK382.out 1).trans rfl⟩ (fun hHeld => ?_); refine with_tabW fraction_Cmp.tab12 fraction_Cmp.bits12 (fun HT_ HW_ => ?_)
                generalize wc.drew = w45 at BK381 BK382 HB hHeld ⊢
                refine pure_ (i := 0) (N := some 47) (v := ?_) (a' := ?_) #[true, false, false, false, false, false, false, false, false, false, false, false, false, false, false, false] rfl rfl (any_of HT_.out (by kernel_rfl)) (fun _ _ _ h => h) (Or.inl ⟨by rfl, ?_⟩) ?_ ?_
                rotate_left
                · intro w'
                  go_simp
                  with_reducible rfl
                rotate_left
                · simp only [Act.put, List.setIfInBounds_toArray, List.set_cons_zero, List.set_cons_succ, i64_w, i32_w]
                  rfl
                refine pure_ (i := 3) (N := some 50) (v := ?_) (a' := ?_) #[true, false, false, true, false, false, false, false, false, false, false, false, false, false, false, false] rfl rfl (any_of HT_.out (by kernel_rfl)) (fun _ _ _ h => h) (Or.inl ⟨by rfl, ?_⟩) ?_ ?_
                rotate_left
                · intro w'
                  go_simp
                  with_reducible rfl
                rotate_left
                · simp only [Act.put, List.setIfInBounds_toArray, List.set_cons_zero, List.set_cons_succ, i64_w, i32_w]
                  rfl
                refine pure_ (i := 7) (N := some 54) (v := ?_) (a' := ?_) #[true, false, false, true, false, false, false, true, false, false, false, false, false, false, false, false] rfl rfl (any_of HT_.out (by kernel_rfl)) (fun _ _ _ h => h) (Or.inl ⟨by rfl, ?_⟩) ?_ ?_
                rotate_left
                · intro w'
                  go_simp
                  with_reducible rfl
                rotate_left
                · simp only [Act.put, List.setIfInBounds_toArray, List.set_cons_zero, List.set_cons_succ, i64_w, i32_w]
                  rfl
                refine pure_ (i := 10) (N := some 57) (v := ?_) (a' := ?_) #[true, false, false, true, false, false, false, true, false, false, true, false, false, false, false, false] rfl rfl (any_of HT_.out (by kernel_rfl)) (fun _ _ _ h => h) (Or.inl ⟨by rfl, ?_⟩) ?_ ?_
                rotate_left
                · intro w'
                  go_simp
                  with_reducible rfl
                rotate_left
                · simp only [Act.put, List.setIfInBounds_toArray, List.set_cons_zero, List.set_cons_succ, i64_w, i32_w]
                  rfl
                refine take_ (i := 1) (N := some 48) (v := ?_) (a' := ?_) #[true, true, false, true, false, false, false, true, false, false, true, false, false, false, false, false] rfl rfl (take_ofW HT_.out HW_.out (by kernel_rfl)) (fun _ _ _ h => h) (Or.inl ⟨by rfl, ?_⟩) hHeld ?_ ?_
                rotate_left
                · rintro w' ⟨s0, s1, s2, s3⟩
                  go_simp
                  with_reducible rfl
                rotate_left
                · simp only [Act.put, List.setIfInBounds_toArray, List.set_cons_zero, List.set_cons_succ, i64_w, i32_w]
                  rfl
                refine take_ (i := 4) (N := some 51) (v := ?_) (a' := ?_) #[true, true, false, true, true, false, false, true, false, false, true, false, false, false, false, false] rfl rfl (take_ofW HT_.out HW_.out (by kernel_rfl)) (fun _ _ _ h => h) (Or.inl ⟨by rfl, ?_⟩) hHeld ?_ ?_
                rotate_left
                · rintro w' ⟨s0, s1, s2, s3⟩
                  go_simp
                  with_reducible rfl
                rotate_left
                · simp only [Act.put, List.setIfInBounds_toArray, List.set_cons_zero, List.set_cons_succ, i64_w, i32_w]
                  rfl
                refine pure_ (i := 5) (N := some 52) (v := ?_) (a' := ?_) #[true, true, false, true, true, true, false, true, false, false, true, false, false, false, false, false] rfl rfl (any_of HT_.out (by kernel_rfl)) (fun _ _ _ h => h) (Or.inl ⟨by rfl, ?_⟩) ?_ ?_
                rotate_left
                · intro w'
                  go_simp
                  with_reducible rfl
                rotate_left
                · simp only [Act.put, List.setIfInBounds_toArray, List.set_cons_zero, List.set_cons_succ, i64_w, i32_w]
                  rfl
                refine take_ (i := 8) (N := some 55) (v := ?_) (a' := ?_) #[true, true, false, true, true, true, false, true, true, false, true, false, false, false, false, false] rfl rfl (take_ofW HT_.out HW_.out (by kernel_rfl)) (fun _ _ _ h => h) (Or.inl ⟨by rfl, ?_⟩) hHeld ?_ ?_
                rotate_left
                · rintro w' ⟨s0, s1, s2, s3⟩
                  go_simp
                  with_reducible rfl
                rotate_left
                · simp only [Act.put, List.setIfInBounds_toArray, List.set_cons_zero, List.set_cons_succ, i64_w, i32_w]
                  rfl
                refine take_ (i := 11) (N := some 58) (v := ?_) (a' := ?_) #[true, true, false, true, true, true, false, true, true, false, true, true, false, false, false, false] rfl rfl (take_ofW HT_.out HW_.out (by kernel_rfl)) (fun _ _ _ h => h) (Or.inl ⟨by rfl, ?_⟩) hHeld ?_ ?_
                rotate_left
                · rintro w' ⟨s0, s1, s2, s3⟩
                  go_simp
                  with_reducible rfl
                rotate_left
                · simp only [Act.put, List.setIfInBounds_toArray, List.set_cons_zero, List.set_cons_succ, i64_w, i32_w]
                  rfl
                refine pure_ (i := 12) (N := some 59) (v := ?_) (a' := ?_) #[true, true, false, true, true, true, false, true, true, false, true, true, true, false, false, false] rfl rfl (any_of HT_.out (by kernel_rfl)) (fun _ _ _ h => h) (Or.inl ⟨by rfl, ?_⟩) ?_ ?_
                rotate_left
                · intro w'
                  go_simp
                  with_reducible rfl
                rotate_left
                · simp only [Act.put, List.setIfInBounds_toArray, List.set_cons_zero, List.set_cons_succ, i64_w, i32_w]
                  rfl
                refine one_ (i := 2) (N := some 49) #[true, true, true, true, true, true, false, true, true, false, true, true, true, false, false, false] rfl rfl (one_of HT_.out (by kernel_rfl)) (by decide) (fun K hK => ?_)
                refine goes_ Try.func49 (by kernel_rfl) rfl #[.int .i64 a0_0] (by rfl) rfl rfl (by (try simp only [List.map_toArray, List.map_cons, List.map_nil]); first | done | rfl | (simp only [List.length_drop, List.length_take]; rfl)) ?_
                with_reducible refine (fraction_size.calls a0_0 t385 _ A28.out).mono ?_
                rintro e w' ⟨rfl, ⟨nd, rfl⟩⟩
                refine ⟨_, rfl, ?_⟩
                refine hK.out _ _ ⟨(blk_cell BK381.out 0).trans rfl, (blk_cell BK381.out 1).trans rfl, (blk_cell BK382.out 0).trans rfl, (blk_cell BK382.out 1).trans rfl⟩ (fun hHeld => ?_)
                clear hK K
                refine norm_ (a' := ?_) ?_ ?_
                rotate_left
                · show Act.put _ (some 49) _ = _
                  simp only [Act.put, List.setIfInBounds_toArray, List.set_cons_zero, List.set_cons_succ, i64_w, i32_w]
                  rfl
                refine one_ (i := 6) (N := some 53) #[true, true, true, true, true, true, true, true, true, false, true, true, true, false, false, false] rfl rfl (one_of HT_.out (by kernel_rfl)) (by decide) (fun K hK => ?_)
                refine goes_ Try.func48 (by kernel_rfl) rfl #[.int .u64 t385, .int .u64 (IntKind.u64.wrap (a1_1))] (by rfl) rfl rfl (by (try simp only [List.map_toArray, List.map_cons, List.map_nil]); first | done | rfl | (simp only [List.length_drop, List.length_take]; rfl)) ?_
                with_reducible refine (fraction_times.calls t385 (IntKind.u64.wrap (a1_1)) t386 t387 _ A29.out).mono ?_
                rintro e w46 ⟨rfl, hb⟩
                refine ⟨_, rfl, ?_⟩
                have n0_ := Aside0.mk (blk_below (g := gb381) (o := .cells #[.int .i64 a0_0, .int .i64 a0_1] 31 (0, 0)) (by (with_reducible repeat (first | refine blk_drewN ?_ _ | refine blk_drew ?_ | refine blk_alloc ?_ _)); exact BK381.out) hb)
                have n1_ := Aside0.mk (blk_below (g := gb382) (o := .cells #[.int .i64 a1_0, .int .i64 a1_1] 31 (0, 0)) (by (with_reducible repeat (first | refine blk_drewN ?_ _ | refine blk_drew ?_ | refine blk_alloc ?_ _)); exact BK382.out) hb)
                have n2_ := Aside0.mk (below_step (by repeat (first | (with_reducible first | exact HB.out | apply below_alloc | apply pw_below_drewN | apply below_drew1 | refine below_set ?_ GE381.out | refine below_set ?_ GE382.out) | exact HB.out)) hb)
                clear BK381
                clear BK382
                clear HB
                have BK381 := n0_
                have BK382 := n1_
                have HB := n2_
                clear n0_ n1_ n2_
                (try clear hb)
                (try clear hb2)
                (try clear hk)
                (try clear hi)
                refine hK.out _ _ ⟨(blk_cell BK381.out 0).trans rfl, (blk_cell BK381.out 1).trans rfl, (blk_cell BK382.out 0).trans rfl, (blk_cell BK382.out 1).trans rfl⟩ (fun hHeld => ?_)
                clear hK K
                refine norm_ (a' := ?_) ?_ ?_
                rotate_left
                · show Act.put _ (some 53) _ = _
                  simp only [Act.put, List.setIfInBounds_toArray, List.set_cons_zero, List.set_cons_succ, i64_w, i32_w]
                  rfl
                refine one_ (i := 9) (N := some 56) #[true, true, true, true, true, true, true, true, true, true, true, true, true, false, false, false] rfl rfl (one_of HT_.out (by kernel_rfl)) (by decide) (fun K hK => ?_)
                refine goes_ Try.func49 (by kernel_rfl) rfl #[.int .i64 a1_0] (by rfl) rfl rfl (by (try simp only [List.map_toArray, List.map_cons, List.map_nil]); first | done | rfl | (simp only [List.length_drop, List.length_take]; rfl)) ?_
                with_reducible refine (fraction_size.calls a1_0 t388 _ A30.out).mono ?_
                rintro e w' ⟨rfl, ⟨nd, rfl⟩⟩
                refine ⟨_, rfl, ?_⟩
                refine hK.out _ _ ⟨(blk_cell BK381.out 0).trans rfl, (blk_cell BK381.out 1).trans rfl, (blk_cell BK382.out 0).trans rfl, (blk_cell BK382.out 1).trans rfl⟩ (fun hHeld => ?_)
                clear hK K
                refine norm_ (a' := ?_) ?_ ?_
                rotate_left
                · show Act.put _ (some 56) _ = _
                  simp only [Act.put, List.setIfInBounds_toArray, List.set_cons_zero, List.set_cons_succ, i64_w, i32_w]
                  rfl
                refine one_ (i := 13) (N := some 60) #[true, true, true, true, true, true, true, true, true, true, true, true, true, true, false, false] rfl rfl (one_of HT_.out (by kernel_rfl)) (by decide) (fun K hK => ?_)
                refine goes_ Try.func48 (by kernel_rfl) rfl #[.int .u64 t388, .int .u64 (IntKind.u64.wrap (a0_1))] (by rfl) rfl rfl (by (try simp only [List.map_toArray, List.map_cons, List.map_nil]); first | done | rfl | (simp only [List.length_drop, List.length_take]; rfl)) ?_
                with_reducible refine (fraction_times.calls t388 (IntKind.u64.wrap (a0_1)) t389 t390 _ A31.out).mono ?_
                rintro e w47 ⟨rfl, hb⟩
                refine ⟨_, rfl, ?_⟩
                have n0_ := Aside0.mk (blk_below (g := gb381) (o := .cells #[.int .i64 a0_0, .int .i64 a0_1] 31 (0, 0)) (by (with_reducible repeat (first | refine blk_drewN ?_ _ | refine blk_drew ?_ | refine blk_alloc ?_ _)); exact BK381.out) hb)
                have n1_ := Aside0.mk (blk_below (g := gb382) (o := .cells #[.int .i64 a1_0, .int .i64 a1_1] 31 (0, 0)) (by (with_reducible repeat (first | refine blk_drewN ?_ _ | refine blk_drew ?_ | refine blk_alloc ?_ _)); exact BK382.out) hb)
                have n2_ := Aside0.mk (below_step (by repeat (first | (with_reducible first | exact HB.out | apply below_alloc | apply pw_below_drewN | apply below_drew1 | refine below_set ?_ GE381.out | refine below_set ?_ GE382.out) | exact HB.out)) hb)
                clear BK381
                clear BK382
                clear HB
                have BK381 := n0_
                have BK382 := n1_
                have HB := n2_
                clear n0_ n1_ n2_
                (try clear hb)
                (try clear hb2)
                (try clear hk)
                (try clear hi)
                refine hK.out _ _ ⟨(blk_cell BK381.out 0).trans rfl, (blk_cell BK381.out 1).trans rfl, (blk_cell BK382.out 0).trans rfl, (blk_cell BK382.out 1).trans rfl⟩ (fun hHeld => ?_)
                clear hK K
                refine norm_ (a' := ?_) ?_ ?_
                rotate_left
                · show Act.put _ (some 60) _ = _
                  simp only [Act.put, List.setIfInBounds_toArray, List.set_cons_zero, List.set_cons_succ, i64_w, i32_w]
                  rfl
                refine one_ (i := 14) (N := some 61) #[true, true, true, true, true, true, true, true, true, true, true, true, true, true, true, false] rfl rfl (one_of HT_.out (by kernel_rfl)) (by decide) (fun K hK => ?_)
                refine goes_ Try.func47 (by kernel_rfl) rfl #[.agg #[.int .u64 t386, .int .u64 t387], .agg #[.int .u64 t389, .int .u64 t390]] (by rfl) rfl rfl (by (try simp only [List.map_toArray, List.map_cons, List.map_nil]); first | done | rfl | (simp only [List.length_drop, List.length_take]; rfl)) ?_
                with_reducible refine (fraction_less.calls t386 t387 t389 t390 t391 _ A32.out).mono ?_
                rintro e w48 ⟨rfl, hb⟩
                refine ⟨_, rfl, ?_⟩
                have n0_ := Aside0.mk (blk_below (g := gb381) (o := .cells #[.int .i64 a0_0, .int .i64 a0_1] 31 (0, 0)) (by (with_reducible repeat (first | refine blk_drewN ?_ _ | refine blk_drew ?_ | refine blk_alloc ?_ _)); exact BK381.out) hb)
                have n1_ := Aside0.mk (blk_below (g := gb382) (o := .cells #[.int .i64 a1_0, .int .i64 a1_1] 31 (0, 0)) (by (with_reducible repeat (first | refine blk_drewN ?_ _ | refine blk_drew ?_ | refine blk_alloc ?_ _)); exact BK382.out) hb)
                have n2_ := Aside0.mk (below_step (by repeat (first | (with_reducible first | exact HB.out | apply below_alloc | apply pw_below_drewN | apply below_drew1 | refine below_set ?_ GE381.out | refine below_set ?_ GE382.out) | exact HB.out)) hb)
                clear BK381
                clear BK382
                clear HB
                have BK381 := n0_
                have BK382 := n1_
                have HB := n2_
                clear n0_ n1_ n2_
                (try clear hb)
                (try clear hb2)
                (try clear hk)
                (try clear hi)
                refine hK.out _ _ ⟨(blk_cell BK381.out 0).trans rfl, (blk_cell BK381.out 1).trans rfl, (blk_cell BK382.out 0).trans rfl, (blk_cell BK382.out 1).trans rfl⟩ (fun hHeld => ?_)
                clear hK K
                refine norm_ (a' := ?_) ?_ ?_
                rotate_left
                · show Act.put _ (some 61) _ = _
                  simp only [Act.put, List.setIfInBounds_toArray, List.set_cons_zero, List.set_cons_succ, i64_w, i32_w]
                  rfl
                refine pure_ (i := 15) (N := some 7) (v := ?_) (a' := ?_) #[true, true, true, true, true, true, true, true, true, true, true, true, true, true, true, true] rfl rfl (any_of HT_.out (by kernel_rfl)) (fun _ _ _ h => h) (Or.inl ⟨by rfl, ?_⟩) ?_ ?_
                rotate_left
                · intro w'
                  go_simp
                  with_reducible rfl
                rotate_left
                · simp only [Act.put, List.setIfInBounds_toArray, List.set_cons_zero, List.set_cons_succ, i64_w, i32_w]
                  rfl
                refine done_ (done_of HT_.out (by kernel_rfl)) ?_
                have hcz49_0 : w48.cell? ⟨gb381, 0, none⟩ = some (.int .i64 a0_0) := (blk_cell BK381.out 0).trans rfl
                have hcz49_1 : w48.cell? ⟨gb381, 1, none⟩ = some (.int .i64 a0_1) := (blk_cell BK381.out 1).trans rfl
                have hfz49_0 := blk_frozen BK381.out 0
                have hfz49_1 := blk_frozen BK381.out 1
                try go_wp2
                go_ret
                exact ⟨by first | rfl | (simp [errW_none, errW_some] <;> rfl) | (simp [*, errW_none, errW_some] <;> rfl), by repeat (first | (with_reducible first | exact HB.out | apply below_alloc | apply pw_below_drewN | apply below_drew1 | refine below_set ?_ GE381.out | refine below_set ?_ GE382.out) | exact HB.out)⟩
          · replace c19 := Bool.eq_false_iff.mpr c19
            subst c19
            have H1 : (some 1) = some r := by rw [if_neg (show ¬ (false = true) by decide)] at H; exact H
            clear H
            have H := H1
            clear H1
            obtain rfl := Option.some.inj H
            go_wp2
            go_ret
            exact ⟨by first | rfl | (simp [errW_none, errW_some] <;> rfl) | (simp [*, errW_none, errW_some] <;> rfl), by repeat (first | (with_reducible first | exact HB.out | apply below_alloc | apply pw_below_drewN | apply below_drew1 | refine below_set ?_ GE381.out | refine below_set ?_ GE382.out) | exact HB.out)⟩
        · replace c18 := Bool.eq_false_iff.mpr c18
          subst c18
          have H1 : (some (-1)) = some r := by rw [if_neg (show ¬ (false = true) by decide)] at H; exact H
          clear H
          have H := H1
          clear H1
          obtain rfl := Option.some.inj H
          go_wp2
          go_ret
          exact ⟨by first | rfl | (simp [errW_none, errW_some] <;> rfl) | (simp [*, errW_none, errW_some] <;> rfl), by repeat (first | (with_reducible first | exact HB.out | apply below_alloc | apply pw_below_drewN | apply below_drew1 | refine below_set ?_ GE381.out | refine below_set ?_ GE382.out) | exact HB.out)⟩

end Go.Proofs.Ytfldgdkjijianaa.P
