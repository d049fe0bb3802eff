-- PRINTED by print.py (a twelfth state) out of the translation. Not trusted: Lean checks it.
import Derived.Test.YtfldgdkjijianaaPx0
import Derived.Test.YtfldgdkjijianaaPx13
import Derived.Test.YtfldgdkjijianaaPx16
import Derived.Test.YtfldgdkjijianaaPx6
namespace Go.Proofs.Ytfldgdkjijianaa.P
open Go.RowKit Go.Proofs.YtfldgdkjijianaaW.PrintWords Go.Proofs.YtfldgdkjijianaaW.PrintLast Go.Proofs.YtfldgdkjijianaaW.PrintMore
attribute [local go_sem] max2_int min2_int max_two min_two max_three min_three max_four min_four   -- for this text's walks alone
set_option linter.unusedVariables false
set_option linter.unusedSimpArgs false

/-! ### salchowlaw28_TrimmedRobust: function 6 -/
mutual
def salchowlaw28_TrimmedRobust.j0 : Nat → List Int → Int → List Int → List Int → Bool → Option (Bool)
  | 0, _, _, _, _, _ => none
  | k + 1, x0, x1, x2, x3, x40 => if x40 = true then (some true) else ((some (([] : List Int) : List Int)).bind fun y469 => (if y469.length + x0.length < 17592186044416 then (if 0 ≤ (x0.length : Int) then (if ((x0.length : Int) : Int).toNat ≤ 281474976710656 then (salchowlaw28_TrimmedRobust.l0 k x0 x1 x2 x3 (y469 ++ x0) (List.replicate ((x0.length : Int) : Int).toNat false) 0) else (none)) else (none)) else (none)))
def salchowlaw28_TrimmedRobust.l0 : Nat → List Int → Int → List Int → List Int → List Int → List Bool → Int → Option (Bool)
  | 0, _, _, _, _, _, _, _ => none
  | k + 1, x0, x1, x2, x3, x9, x10, x11 => if x11 < (x2.length : Int) then (if 0 ≤ x11 then (if (rd x2 x11) < 0 then (some true) else (if (rd x2 x11) ≥ (x0.length : Int) then (some true) else (if x11 < (x3.length : Int) then (if 0 ≤ (rd x2 x11) then (if (rd x2 x11) < (x9.length : Int) then (if (rd x2 x11) < (x10.length : Int) then (salchowlaw28_TrimmedRobust.l0 k x0 x1 x2 x3 (x9.set ((rd x2 x11) : Int).toNat (rd x3 x11)) (x10.set ((rd x2 x11) : Int).toNat true) (wrap64 (x11 + 1))) else (none)) else (none)) else (none)) else (none)))) else (none)) else ((trimmed_Mean.f k x9 x1).bind fun bt485 => (if bt485.2.2 = 0 then (salchowlaw28_TrimmedRobust.l1 k x0 x10 0 0 true 0 bt485.1 bt485.2.1) else (some true)))
def salchowlaw28_TrimmedRobust.l1 : Nat → List Int → List Bool → Int → Int → Bool → Int → Int → Int → Option (Bool)
  | 0, _, _, _, _, _, _, _, _ => none
  | k + 1, x0, x10, x14, x15, x16, x17, x489000, x489001 => if x17 < (x0.length : Int) then (if 0 ≤ x17 then (if x17 < (x10.length : Int) then (if rdOf false x10 x17 = true then (salchowlaw28_TrimmedRobust.l1 k x0 x10 x14 x15 x16 (wrap64 (x17 + 1)) x489000 x489001) else (if x16 = true then (salchowlaw28_TrimmedRobust.j3 k x0 x10 x14 x15 x16 x17 true x489000 x489001) else (salchowlaw28_TrimmedRobust.j3 k x0 x10 x14 x15 x16 x17 (decide ((rd x0 x17) < x14)) x489000 x489001))) else (none)) else (none)) else (if x16 = true then (some false) else ((fraction_Milli.f k x14).bind fun bt498 => ((fraction_Cmp.f k bt498.1 bt498.2 x489000 x489001).bind fun t500 => (if t500 ≤ 0 then ((fraction_Milli.f k x15).bind fun bt501 => ((fraction_Cmp.f k x489000 x489001 bt501.1 bt501.2).bind fun t503 => (some (decide (t503 ≤ 0))))) else (some false)))))
def salchowlaw28_TrimmedRobust.j3 : Nat → List Int → List Bool → Int → Int → Bool → Int → Bool → Int → Int → Option (Bool)
  | 0, _, _, _, _, _, _, _, _, _ => none
  | k + 1, x0, x10, x14, x15, x16, x17, x109, x489000, x489001 => if x109 = true then (if 0 ≤ x17 then (if x17 < (x0.length : Int) then (if x16 = true then (salchowlaw28_TrimmedRobust.l1 k x0 x10 (rd x0 x17) (rd x0 x17) false (wrap64 (x17 + 1)) x489000 x489001) else (if (rd x0 x17) > x15 then (salchowlaw28_TrimmedRobust.l1 k x0 x10 (rd x0 x17) (rd x0 x17) false (wrap64 (x17 + 1)) x489000 x489001) else (salchowlaw28_TrimmedRobust.l1 k x0 x10 (rd x0 x17) x15 false (wrap64 (x17 + 1)) x489000 x489001))) else (none)) else (none)) else (if x16 = true then (if 0 ≤ x17 then (if x17 < (x0.length : Int) then (salchowlaw28_TrimmedRobust.l1 k x0 x10 x14 (rd x0 x17) false (wrap64 (x17 + 1)) x489000 x489001) else (none)) else (none)) else (if 0 ≤ x17 then (if x17 < (x0.length : Int) then (if (rd x0 x17) > x15 then (salchowlaw28_TrimmedRobust.l1 k x0 x10 x14 (rd x0 x17) false (wrap64 (x17 + 1)) x489000 x489001) else (salchowlaw28_TrimmedRobust.l1 k x0 x10 x14 x15 false (wrap64 (x17 + 1)) x489000 x489001)) else (none)) else (none)))
end
def salchowlaw28_TrimmedRobust.f (k : Nat) (l0 : List Int) (a1 : Int) (l2 : List Int) (l3 : List Int) : Option (Bool) := (salchowlaw28_awake.f k).bind fun t468 => (if t468 = true then (if (l0.length : Int) > 60 then (salchowlaw28_TrimmedRobust.j0 k l0 a1 l2 l3 true) else (if (l2.length : Int) > 60 then (salchowlaw28_TrimmedRobust.j0 k l0 a1 l2 l3 true) else (if (l2.length : Int) > a1 then (salchowlaw28_TrimmedRobust.j0 k l0 a1 l2 l3 true) else (salchowlaw28_TrimmedRobust.j0 k l0 a1 l2 l3 (decide ((l3.length : Int) < (l2.length : Int))))))) else (some false))
theorem salchowlaw28_TrimmedRobust.mono_l : ∀ k, (∀ y0 y1 y2 y3 y4, LeO (salchowlaw28_TrimmedRobust.j0 k y0 y1 y2 y3 y4) (salchowlaw28_TrimmedRobust.j0 (k + 1) y0 y1 y2 y3 y4)) ∧ (∀ y0 y1 y2 y3 y4 y5 y6, LeO (salchowlaw28_TrimmedRobust.l0 k y0 y1 y2 y3 y4 y5 y6) (salchowlaw28_TrimmedRobust.l0 (k + 1) y0 y1 y2 y3 y4 y5 y6)) ∧ (∀ y0 y1 y2 y3 y4 y5 y6 y7, LeO (salchowlaw28_TrimmedRobust.l1 k y0 y1 y2 y3 y4 y5 y6 y7) (salchowlaw28_TrimmedRobust.l1 (k + 1) y0 y1 y2 y3 y4 y5 y6 y7)) ∧ (∀ y0 y1 y2 y3 y4 y5 y6 y7 y8, LeO (salchowlaw28_TrimmedRobust.j3 k y0 y1 y2 y3 y4 y5 y6 y7 y8) (salchowlaw28_TrimmedRobust.j3 (k + 1) y0 y1 y2 y3 y4 y5 y6 y7 y8))
  | 0 => ⟨fun _ _ _ _ _ r h => by simp [salchowlaw28_TrimmedRobust.j0] at h, fun _ _ _ _ _ _ _ r h => by simp [salchowlaw28_TrimmedRobust.l0] at h, fun _ _ _ _ _ _ _ _ r h => by simp [salchowlaw28_TrimmedRobust.l1] at h, fun _ _ _ _ _ _ _ _ _ r h => by simp [salchowlaw28_TrimmedRobust.j3] at h⟩
  | k + 1 => by
    obtain ⟨ih0, ih1, ih2, ih3⟩ := salchowlaw28_TrimmedRobust.mono_l k
    refine ⟨?_, ?_, ?_, ?_⟩
    · intro y0 y1 y2 y3 y4
      unfold salchowlaw28_TrimmedRobust.j0
      repeat' first
      | (with_reducible exact ih0 _ _ _ _ _)
      | (with_reducible exact ih1 _ _ _ _ _ _ _)
      | (with_reducible exact ih2 _ _ _ _ _ _ _ _)
      | (with_reducible exact ih3 _ _ _ _ _ _ _ _ _)
      | (with_reducible exact fraction_Cmp.mono _ _ _ _ _)
      | (with_reducible exact fraction_Milli.mono _ _)
      | (with_reducible exact salchowlaw28_awake.mono _)
      | (with_reducible exact trimmed_Mean.mono _ _ _)
      | (with_reducible exact LeO.refl _)
      | (with_reducible exact LeO.none _)
      | (with_reducible refine LeO.ite ?_ ?_)
      | (with_reducible refine LeO.bind ?_ (fun _ => ?_))
      | exact ih0 _ _ _ _ _
      | exact ih1 _ _ _ _ _ _ _
      | exact ih2 _ _ _ _ _ _ _ _
      | exact ih3 _ _ _ _ _ _ _ _ _
      | exact fraction_Cmp.mono _ _ _ _ _
      | exact fraction_Milli.mono _ _
      | exact salchowlaw28_awake.mono _
      | exact trimmed_Mean.mono _ _ _
      | exact LeO.none _
      | refine LeO.ite ?_ ?_
      | refine LeO.bind ?_ (fun _ => ?_)
    · intro y0 y1 y2 y3 y4 y5 y6
      unfold salchowlaw28_TrimmedRobust.l0
      repeat' first
      | (with_reducible exact ih0 _ _ _ _ _)
      | (with_reducible exact ih1 _ _ _ _ _ _ _)
      | (with_reducible exact ih2 _ _ _ _ _ _ _ _)
      | (with_reducible exact ih3 _ _ _ _ _ _ _ _ _)
      | (with_reducible exact fraction_Cmp.mono _ _ _ _ _)
      | (with_reducible exact fraction_Milli.mono _ _)
      | (with_reducible exact salchowlaw28_awake.mono _)
      | (with_reducible exact trimmed_Mean.mono _ _ _)
      | (with_reducible exact LeO.refl _)
      | (with_reducible exact LeO.none _)
      | (with_reducible refine LeO.ite ?_ ?_)
      | (with_reducible refine LeO.bind ?_ (fun _ => ?_))
      | exact ih0 _ _ _ _ _
      | exact ih1 _ _ _ _ _ _ _
      | exact ih2 _ _ _ _ _ _ _ _
      | exact ih3 _ _ _ _ _ _ _ _ _
      | exact fraction_Cmp.mono _ _ _ _ _
      | exact fraction_Milli.mono _ _
      | exact salchowlaw28_awake.mono _
      | exact trimmed_Mean.mono _ _ _
      | exact LeO.none _
      | refine LeO.ite ?_ ?_
      | refine LeO.bind ?_ (fun _ => ?_)
    · intro y0 y1 y2 y3 y4 y5 y6 y7
      unfold salchowlaw28_TrimmedRobust.l1
      repeat' first
      | (with_reducible exact ih0 _ _ _ _ _)
      | (with_reducible exact ih1 _ _ _ _ _ _ _)
      | (with_reducible exact ih2 _ _ _ _ _ _ _ _)
      | (with_reducible exact ih3 _ _ _ _ _ _ _ _ _)
      | (with_reducible exact fraction_Cmp.mono _ _ _ _ _)
      | (with_reducible exact fraction_Milli.mono _ _)
      | (with_reducible exact salchowlaw28_awake.mono _)
      | (with_reducible exact trimmed_Mean.mono _ _ _)
      | (with_reducible exact LeO.refl _)
      | (with_reducible exact LeO.none _)
      | (with_reducible refine LeO.ite ?_ ?_)
      | (with_reducible refine LeO.bind ?_ (fun _ => ?_))
      | exact ih0 _ _ _ _ _
      | exact ih1 _ _ _ _ _ _ _
      | exact ih2 _ _ _ _ _ _ _ _
      | exact ih3 _ _ _ _ _ _ _ _ _
      | exact fraction_Cmp.mono _ _ _ _ _
      | exact fraction_Milli.mono _ _
      | exact salchowlaw28_awake.mono _
      | exact trimmed_Mean.mono _ _ _
      | exact LeO.none _
      | refine LeO.ite ?_ ?_
      | refine LeO.bind ?_ (fun _ => ?_)
    · intro y0 y1 y2 y3 y4 y5 y6 y7 y8
      unfold salchowlaw28_TrimmedRobust.j3
      repeat' first
      | (with_reducible exact ih0 _ _ _ _ _)
      | (with_reducible exact ih1 _ _ _ _ _ _ _)
      | (with_reducible exact ih2 _ _ _ _ _ _ _ _)
      | (with_reducible exact ih3 _ _ _ _ _ _ _ _ _)
      | (with_reducible exact fraction_Cmp.mono _ _ _ _ _)
      | (with_reducible exact fraction_Milli.mono _ _)
      | (with_reducible exact salchowlaw28_awake.mono _)
      | (with_reducible exact trimmed_Mean.mono _ _ _)
      | (with_reducible exact LeO.refl _)
      | (with_reducible exact LeO.none _)
      | (with_reducible refine LeO.ite ?_ ?_)
      | (with_reducible refine LeO.bind ?_ (fun _ => ?_))
      | exact ih0 _ _ _ _ _
      | exact ih1 _ _ _ _ _ _ _
      | exact ih2 _ _ _ _ _ _ _ _
      | exact ih3 _ _ _ _ _ _ _ _ _
      | exact fraction_Cmp.mono _ _ _ _ _
      | exact fraction_Milli.mono _ _
      | exact salchowlaw28_awake.mono _
      | exact trimmed_Mean.mono _ _ _
      | exact LeO.none _
      | refine LeO.ite ?_ ?_
      | refine LeO.bind ?_ (fun _ => ?_)
theorem salchowlaw28_TrimmedRobust.mono : ∀ a0 a1 a2 a3 k, LeO (salchowlaw28_TrimmedRobust.f k a0 a1 a2 a3) (salchowlaw28_TrimmedRobust.f (k + 1) a0 a1 a2 a3) := by
  intro a0 a1 a2 a3 k
  obtain ⟨ih0, ih1, ih2, ih3⟩ := salchowlaw28_TrimmedRobust.mono_l k
  unfold salchowlaw28_TrimmedRobust.f
  repeat' first
      | (with_reducible exact ih0 _ _ _ _ _)
      | (with_reducible exact ih1 _ _ _ _ _ _ _)
      | (with_reducible exact ih2 _ _ _ _ _ _ _ _)
      | (with_reducible exact ih3 _ _ _ _ _ _ _ _ _)
      | (with_reducible exact fraction_Cmp.mono _ _ _ _ _)
      | (with_reducible exact fraction_Milli.mono _ _)
      | (with_reducible exact salchowlaw28_awake.mono _)
      | (with_reducible exact trimmed_Mean.mono _ _ _)
      | (with_reducible exact LeO.refl _)
      | (with_reducible exact LeO.none _)
      | (with_reducible refine LeO.ite ?_ ?_)
      | (with_reducible refine LeO.bind ?_ (fun _ => ?_))
      | exact ih0 _ _ _ _ _
      | exact ih1 _ _ _ _ _ _ _
      | exact ih2 _ _ _ _ _ _ _ _
      | exact ih3 _ _ _ _ _ _ _ _ _
      | exact fraction_Cmp.mono _ _ _ _ _
      | exact fraction_Milli.mono _ _
      | exact salchowlaw28_awake.mono _
      | exact trimmed_Mean.mono _ _ _
      | exact LeO.none _
      | refine LeO.ite ?_ ?_
      | refine LeO.bind ?_ (fun _ => ?_)
def salchowlaw28_TrimmedRobust.T12 : Bool × List (List Nat × List Nat) := (true, [([], []), ([], []), ([], []), ([1, 2], [1, 2]), ([3], [3]), ([], []), ([], []), ([5, 6], [5, 6]), ([7], [7]), ([0, 4, 0, 1, 2, 3, 4, 5, 6, 7, 8], [0, 4]), ([9, 8, 0, 1, 2, 3, 4, 5, 6, 7, 8], [8, 9])])
def salchowlaw28_TrimmedRobust.B12 : List Nat := [0, 0, 0, 6, 14, 0, 0, 96, 224, 511, 1023]
theorem salchowlaw28_TrimmedRobust.tab12 : rtab .any (opsOf Try.f6 12) = salchowlaw28_TrimmedRobust.T12 := by kernel_rfl
theorem salchowlaw28_TrimmedRobust.bits12 : waitsOk salchowlaw28_TrimmedRobust.T12.2 salchowlaw28_TrimmedRobust.B12 = true := by kernel_rfl
def salchowlaw28_TrimmedRobust.T28 : Bool × List (List Nat × List Nat) := (true, [([], []), ([0], [0]), ([1], [1]), ([2], [2]), ([3, 2, 2], [2, 3]), ([2], [2]), ([4, 5, 4, 2], [2, 4, 5]), ([6, 2], [2, 6]), ([2, 7], [2, 7]), ([8, 6], [8]), ([9], [9]), ([9], [9]), ([11, 9, 9], [9, 11]), ([10, 12, 12, 9], [9, 10, 12]), ([13, 9], [9, 13]), ([9, 14], [9, 14]), ([15, 13, 0, 1, 2, 3, 4, 5, 6, 7, 8, 9, 10, 11, 12, 13, 14, 15], [15])])
def salchowlaw28_TrimmedRobust.B28 : List Nat := [0, 1, 3, 7, 15, 7, 63, 127, 255, 511, 1023, 1023, 3071, 8191, 16383, 32767, 65535]
theorem salchowlaw28_TrimmedRobust.tab28 : rtab .any (opsOf Try.f6 28) = salchowlaw28_TrimmedRobust.T28 := by kernel_rfl
theorem salchowlaw28_TrimmedRobust.bits28 : waitsOk salchowlaw28_TrimmedRobust.T28.2 salchowlaw28_TrimmedRobust.B28 = true := by kernel_rfl
set_option maxHeartbeats 8000000 in
set_option maxRecDepth 100000 in
theorem salchowlaw28_TrimmedRobust.calls (k : Nat) (A0 : Option Addr) (c0 : Nat) (l0 : List Int) (a1 : Int) (A2 : Option Addr) (c2 : Nat) (l2 : List Int) (A3 : Option Addr) (c3 : Nat) (l3 : List Int) (r : Bool) (w : World) (hr0 : Kd.C (Kd.int .i64) w A0 l0.length l0) (hc0 : l0.length ≤ c0) (hr2 : Kd.C (Kd.int .i64) w A2 l2.length l2) (hc2 : l2.length ≤ c2) (hr3 : Kd.C (Kd.int .i64) w A3 l3.length l3) (hc3 : l3.length ≤ c3) (h : salchowlaw28_TrimmedRobust.f k l0 a1 l2 l3 = some r) :
    Calls Try.prog 6 #[.slice A0 l0.length c0, .int .i64 a1, .slice A2 l2.length c2, .slice A3 l3.length c3] w fun e w' => e = .returned (.bool r) ∧ Below w.heap.size w w' := by
  have hu31 := Try.underlying31
  have HR0 := Aside0.mk hr0
  have HC0 := Aside0.mk hc0
  clear hr0 hc0
  have HR2 := Aside0.mk hr2
  have HC2 := Aside0.mk hc2
  clear hr2 hc2
  have HR3 := Aside0.mk hr3
  have HC3 := Aside0.mk hc3
  clear hr3 hc3
  have HB := Aside0.mk (Below.refl w.heap.size w)
  have H : ((salchowlaw28_awake.f k).bind fun t468 => (if t468 = true then (if (l0.length : Int) > 60 then (salchowlaw28_TrimmedRobust.j0 k l0 a1 l2 l3 true) else (if (l2.length : Int) > 60 then (salchowlaw28_TrimmedRobust.j0 k l0 a1 l2 l3 true) else (if (l2.length : Int) > a1 then (salchowlaw28_TrimmedRobust.j0 k l0 a1 l2 l3 true) else (salchowlaw28_TrimmedRobust.j0 k l0 a1 l2 l3 (decide ((l3.length : Int) < (l2.length : Int))))))) else (some false))) = some r := h
  clear h
  replace H := Option.bind_eq_some_iff.mp H
  obtain ⟨t468, A50, H⟩ := H
  replace H : (if t468 = true then (if (l0.length : Int) > 60 then (salchowlaw28_TrimmedRobust.j0 k l0 a1 l2 l3 true) else (if (l2.length : Int) > 60 then (salchowlaw28_TrimmedRobust.j0 k l0 a1 l2 l3 true) else (if (l2.length : Int) > a1 then (salchowlaw28_TrimmedRobust.j0 k l0 a1 l2 l3 true) else (salchowlaw28_TrimmedRobust.j0 k l0 a1 l2 l3 (decide ((l3.length : Int) < (l2.length : Int))))))) else (some false)) = some r := H
  have A5 := Aside0.mk A50
  clear A50
  by_cases c6 : t468 = true
  · subst c6
    have H1 : (if (l0.length : Int) > 60 then (salchowlaw28_TrimmedRobust.j0 k l0 a1 l2 l3 true) else (if (l2.length : Int) > 60 then (salchowlaw28_TrimmedRobust.j0 k l0 a1 l2 l3 true) else (if (l2.length : Int) > a1 then (salchowlaw28_TrimmedRobust.j0 k l0 a1 l2 l3 true) else (salchowlaw28_TrimmedRobust.j0 k l0 a1 l2 l3 (decide ((l3.length : Int) < (l2.length : Int))))))) = some r := by rw [if_pos rfl] at H; exact H
    clear H
    have H := H1
    clear H1
    have HC7 := Aside0.mk H
    clear H
    go_enter Try.func6, Try.ntmps6
    go_upto_region 3 with (first | ((with_reducible refine gate_callee (f := 11) rfl ?_); refine goesL_ (some 18) rfl rfl Try.func11 (by kernel_rfl) rfl #[] rfl (by (try simp only [List.map_toArray, List.map_cons, List.map_nil]); first | done | rfl | (simp only [List.length_drop, List.length_take]; rfl)) ?_; (with_reducible refine (salchowlaw28_awake.calls k  true _ A5.out).mono ?_); rintro e w8 ⟨rfl, hb⟩; refine ⟨_, rfl, ?_⟩; have n0_ := Aside0.mk (below_step (by repeat (first | (with_reducible first | exact HB.out | apply below_alloc | apply pw_below_drewN | apply below_drew1) | exact HB.out)) hb); clear HB; have HB := n0_; clear n0_; (try clear hb); (try clear hb2); (try clear hk); (try clear hi)))
    (try simp only [Act.put, List.setIfInBounds_toArray, List.set_cons_zero, List.set_cons_succ])
    go_cut [40] (fun v40 wc => ∃ (kq : Nat) (x40_6 : Bool), v40 = .bool x40_6 ∧ Aside0 (salchowlaw28_TrimmedRobust.j0 kq l0 a1 l2 l3 x40_6 = some r) ∧ Aside0 (kq ≤ k) ∧ Aside0 (Below w.heap.size w wc))
    case first =>
      have H := HC7.out
      clear HC7
      by_cases c9 : (l0.length : Int) > 60
      · rw [if_pos c9] at H
        have c9b0 : decide (60 < (l0.length : Int)) = true := decide_eq_true c9
        have c9b1 : decide (60 < l0.length) = true := decide_eq_true (by omega)
        clear c9
        (first | rw [c9b0] | (simp only [i64_w, i32_w]; rw [c9b0]) | skip)
        have H' := Aside0.mk H
        clear H
        go_wp2
        go_meet
        case rel => exact ⟨_, (true), (by first | rfl | (simp; done) | (simp [*]; done)), H', ⟨by first | omega | exact Nat.le_refl _⟩, ⟨by repeat (first | (with_reducible first | exact HB.out | apply below_alloc | apply pw_below_drewN | apply below_drew1) | exact HB.out)⟩⟩
      · rw [if_neg c9] at H
        have c9b0 : decide (60 < (l0.length : Int)) = false := decide_eq_false c9
        have c9b1 : decide (60 < l0.length) = false := decide_eq_false (by omega)
        clear c9
        (first | rw [c9b0] | (simp only [i64_w, i32_w]; rw [c9b0]) | skip)
        by_cases c10 : (l2.length : Int) > 60
        · rw [if_pos c10] at H
          have c10b0 : decide (60 < (l2.length : Int)) = true := decide_eq_true c10
          have c10b1 : decide (60 < l2.length) = true := decide_eq_true (by omega)
          clear c10
          have H' := Aside0.mk H
          clear H
          go_wp2
          go_meet
          case rel => exact ⟨_, (true), (by first | rfl | (simp; done) | (simp [*]; done)), H', ⟨by first | omega | exact Nat.le_refl _⟩, ⟨by repeat (first | (with_reducible first | exact HB.out | apply below_alloc | apply pw_below_drewN | apply below_drew1) | exact HB.out)⟩⟩
        · rw [if_neg c10] at H
          have c10b0 : decide (60 < (l2.length : Int)) = false := decide_eq_false c10
          have c10b1 : decide (60 < l2.length) = false := decide_eq_false (by omega)
          clear c10
          by_cases c11 : (l2.length : Int) > a1
          · rw [if_pos c11] at H
            have c11b0 : decide (a1 < (l2.length : Int)) = true := decide_eq_true c11
            clear c11
            have H' := Aside0.mk H
            clear H
            go_wp2
            go_meet
            case rel => exact ⟨_, (true), (by first | rfl | (simp; done) | (simp [*]; done)), H', ⟨by first | omega | exact Nat.le_refl _⟩, ⟨by repeat (first | (with_reducible first | exact HB.out | apply below_alloc | apply pw_below_drewN | apply below_drew1) | exact HB.out)⟩⟩
          · rw [if_neg c11] at H
            have c11b0 : decide (a1 < (l2.length : Int)) = false := decide_eq_false c11
            clear c11
            have H' := Aside0.mk H
            clear H
            go_wp2
            go_meet
            case rel => exact ⟨_, (decide ((l3.length : Int) < (l2.length : Int))), (by first | rfl | (simp; done) | (simp [*]; done)), H', ⟨by first | omega | exact Nat.le_refl _⟩, ⟨by repeat (first | (with_reducible first | exact HB.out | apply below_alloc | apply pw_below_drewN | apply below_drew1) | exact HB.out)⟩⟩
    case rest =>
      clear HC7
      try clear c1
      try clear c2
      try clear p2
      try clear c3
      try clear c6
      try clear c9
      try clear c9b0
      try clear c9b1
      try clear c10
      try clear c10b0
      try clear c10b1
      try clear c11
      try clear c11b0
      obtain ⟨kq, x40_6, rfl, HA, HJ6, HB⟩ := hcut
      cases kq with
      | zero => exact absurd HA.out (by simp [salchowlaw28_TrimmedRobust.j0])
      | succ kj6 =>
        have H := HA.out
        clear HA
        simp only [salchowlaw28_TrimmedRobust.j0] at H
        by_cases c12 : x40_6 = true
        · subst c12
          have H1 : (some true) = some r := by rw [if_pos rfl] at H; exact H
          clear H
          have H := H1
          clear H1
          obtain rfl := Option.some.inj H
          go_wp2
          go_ret
          exact ⟨by first | rfl | (simp [errW_none, errW_some] <;> rfl) | (simp [*, errW_none, errW_some] <;> rfl), by repeat (first | (with_reducible first | exact HB.out | apply below_alloc | apply pw_below_drewN | apply below_drew1) | exact HB.out)⟩
        · replace c12 := Bool.eq_false_iff.mpr c12
          subst c12
          have H1 : ((some (([] : List Int) : List Int)).bind fun y469 => (if y469.length + l0.length < 17592186044416 then (if 0 ≤ (l0.length : Int) then (if ((l0.length : Int) : Int).toNat ≤ 281474976710656 then (salchowlaw28_TrimmedRobust.l0 kj6 l0 a1 l2 l3 (y469 ++ l0) (List.replicate ((l0.length : Int) : Int).toNat false) 0) else (none)) else (none)) else (none))) = some r := by rw [if_neg (show ¬ (false = true) by decide)] at H; exact H
          clear H
          have H := H1
          clear H1
          obtain ⟨y469, hy469⟩ : ∃ y_ : List Int, y_ = (([] : List Int)) := ⟨_, rfl⟩
          replace H : (if y469.length + l0.length < 17592186044416 then (if 0 ≤ (l0.length : Int) then (if ((l0.length : Int) : Int).toNat ≤ 281474976710656 then (salchowlaw28_TrimmedRobust.l0 kj6 l0 a1 l2 l3 (y469 ++ l0) (List.replicate ((l0.length : Int) : Int).toNat false) 0) else (none)) else (none)) else (none)) = some r := by first | (rw [hy469]; with_reducible exact H) | (have H2_ := (Option.bind_some _ _).symm.trans H; rw [hy469]; with_reducible exact H2_) | (have H2_ := (Option.bind_some _ _).symm.trans H; with_reducible exact H2_) | with_reducible exact H | (rw [hy469]; exact H) | exact H
          have Ny469 := Aside0.mk hy469
          clear hy469
          by_cases c13 : y469.length + l0.length < 17592186044416
          · rw [if_pos c13] at H
            have LMc13 := Aside0.mk c13
            clear c13
            obtain ⟨y472, hy472⟩ : ∃ y_ : List Int, y_ = (y469 ++ l0) := ⟨_, rfl⟩
            replace H : (if 0 ≤ (l0.length : Int) then (if ((l0.length : Int) : Int).toNat ≤ 281474976710656 then (salchowlaw28_TrimmedRobust.l0 kj6 l0 a1 l2 l3 y472 (List.replicate ((l0.length : Int) : Int).toNat false) 0) else (none)) else (none)) = some r := by first | (rw [hy472]; with_reducible exact H) | (have H2_ := (Option.bind_some _ _).symm.trans H; rw [hy472]; with_reducible exact H2_) | (have H2_ := (Option.bind_some _ _).symm.trans H; with_reducible exact H2_) | with_reducible exact H | (rw [hy472]; exact H) | exact H
            have Ny472 := Aside0.mk hy472
            clear hy472
            by_cases c14 : 0 ≤ (l0.length : Int)
            · rw [if_pos c14] at H
              have c14b0 := eq_true c14
              have c14b1 : decide (0 ≤ (l0.length : Int)) = true := decide_eq_true c14
              clear c14
              by_cases c15 : ((l0.length : Int) : Int).toNat ≤ 281474976710656
              · rw [if_pos c15] at H
                have c15b0 := eq_true c15
                have c15b1 : decide (((l0.length : Int) : Int).toNat ≤ 281474976710656) = true := decide_eq_true c15
                clear c15
                obtain ⟨y475, hy475⟩ : ∃ y_ : List Bool, y_ = (List.replicate ((l0.length : Int) : Int).toNat false) := ⟨_, rfl⟩
                replace H : (salchowlaw28_TrimmedRobust.l0 kj6 l0 a1 l2 l3 y472 y475 0) = some r := by first | (rw [hy475]; with_reducible exact H) | (have H2_ := (Option.bind_some _ _).symm.trans H; rw [hy475]; with_reducible exact H2_) | (have H2_ := (Option.bind_some _ _).symm.trans H; with_reducible exact H2_) | with_reducible exact H | (rw [hy475]; exact H) | exact H
                have Ny475 := Aside0.mk hy475
                clear hy475
                have H' := Aside0.mk H
                clear H
                go_wp2_with (first | ((with_reducible refine gate_dst (N := 41) rfl ?_); (try (refine gate_guard (by rfl) ?_; dsimp only)); refine Kd.R_lit (Kd.int .i64) _ 2 ?hg (N := 41) ?hd (xs := ([] : List Int)) (inner := []) (ok := fun _ => True) (okp := fun _ => True) ?hr ?hp (fun _ hk => hk) trivial (Below.refl _ _) (Nat.le_refl _) (by simp) ?_; (case hd => rfl); (case hg => rfl); (case hr => first | (go_simp; done) | (go_simp; rfl)); (case hp => exact (Reps.none _ _)); intro v470 w16 ho17 hb hg_ hnew_; clear hg_ hnew_; (first | rw [← Ny469.out] at ho17 | (simp only [Int.reduceToNat] at ho17; rw [← Ny469.out] at ho17)); have n0_ := Aside0.mk (Kd.R_lower ho17 (below_size (by repeat (first | (with_reducible first | exact HB.out | apply below_alloc | apply pw_below_drewN | apply below_drew1) | exact HB.out)))); have n1_ := Aside0.mk (below_step (by repeat (first | (with_reducible first | exact HB.out | apply below_alloc | apply pw_below_drewN | apply below_drew1) | exact HB.out)) hb); clear HB; have HO471 := n0_; have HB := n1_; clear n0_ n1_; clear hb ho17) | ((with_reducible refine gate_builtin (b := .append) (xs := #[.tmp 41, .tmp 42]) rfl ?_); (try (refine gate_guard (by rfl) ?_; dsimp only)); at_builtin; refine Kd.R_append_rows (Kd.int .i64) (w0 := w) w.heap.size rfl (.tmp 41) (.tmp 42) 22 2 (.int .i64 0) 8 rfl Try.underlying22 info2 rfl (by decide) (by omega) v470 y469 l0 _ _ _ (fun _ => True) (fun _ => False) rfl rfl ?aO ?aR (fun _ _ h => h) (fun _ h => h.elim) ?aF ?aB ?aS ?aL ?_; (case aR => repeat (first | exact (Kd.C_below HR0.out HB.out) | (with_reducible refine Kd.C_alloc ?_ _) | (with_reducible refine Kd.C_drewN ?_ _) | (with_reducible refine Kd.C_drew ?_))); (case aB => exact (by repeat (first | (with_reducible first | exact HB.out | apply below_alloc | apply pw_below_drewN | apply below_drew1) | exact HB.out))); (case aF => exact (fun _ _ => trivial)); (case aO => exact (by (with_reducible repeat (first | apply Kd.R_alloc | apply Kd.R_drewN | apply Kd.R_drew)); exact HO471.out)); (case aS => exact (below_size (by repeat (first | (with_reducible first | exact HB.out | apply below_alloc | apply pw_below_drewN | apply below_drew1) | exact HB.out)))); (case aL => have := LMc13.out; omega); intro v473 w18 ho hb hg hat; rw [← Ny472.out] at ho; have n0_ := Aside0.mk (hb); have n1_ := Aside0.mk (ho); clear HB; clear HO471; have HB := n0_; have HO474 := n1_; clear n0_ n1_; clear ho hb hg hat) | ((with_reducible refine gate_dst (N := 46) rfl ?_); (try (refine gate_guard (by rfl) ?_; dsimp only)); refine Kd.R_make Kd.bool _ 4 rfl (N := 46) rfl 50 _ _ rfl (l0.length : Int) rfl rfl Try.underlying50 (.bool false) 1 info4 rfl (by decide) (by omega) false (ok := fun _ => True) (okp := fun _ => True) rfl (fun _ hk => hk) trivial (of_decide_eq_true (by first | (with_reducible assumption) | assumption)) (Nat.le_trans (Nat.mul_le_mul_right _ (of_decide_eq_true (by first | (with_reducible assumption) | assumption) : (l0.length : Int).toNat ≤ 281474976710656)) (by omega)) (Below.refl _ _) (Nat.le_refl _) ?_; intro v476 w19 ho20 hb hg_ hnew_; clear hg_ hnew_; (first | rw [← Ny475.out] at ho20 | (simp only [Int.reduceToNat] at ho20; rw [← Ny475.out] at ho20)); have n0_ := Aside0.mk (Kd.R_below (by (with_reducible repeat (first | apply Kd.R_alloc | apply Kd.R_drewN | apply Kd.R_drew)); exact HO474.out) hb); have n1_ := Aside0.mk (Kd.R_lower ho20 (below_size (by repeat (first | (with_reducible first | exact HB.out | apply below_alloc | apply pw_below_drewN | apply below_drew1) | exact HB.out)))); have n2_ := Aside0.mk (below_step (by repeat (first | (with_reducible first | exact HB.out | apply below_alloc | apply pw_below_drewN | apply below_drew1) | exact HB.out)) hb); clear HO474; clear HB; have HO474 := n0_; have HO477 := n1_; have HB := n2_; clear n0_ n1_ n2_; clear hb ho20))
                (try simp only [Act.put, List.setIfInBounds_toArray, List.set_cons_zero, List.set_cons_succ])
                go_loopg [11] kj6 (fun kq v11 w' => ∃ (x9_2 : List Int) (x10_2 : List Bool) (x11_2 : Int), v11 = .int .i64 x11_2 ∧ Aside0 (salchowlaw28_TrimmedRobust.l0 kq l0 a1 l2 l3 x9_2 x10_2 x11_2 = some r) ∧ Aside0 (kq ≤ kj6) ∧ Aside0 (Kd.R (Kd.int .i64) 2 w' w.heap.size (fun _ => True) v473 x9_2) ∧ Aside0 (Kd.R Kd.bool 4 w' w.heap.size (fun _ => True) v476 x10_2) ∧ Aside0 (Below w.heap.size w w'))
                case atStart => exact ⟨(y472), (y475), (0), (by first | rfl | (simp; done) | (simp [*]; done)), H', ⟨Nat.le_refl _⟩, ⟨by (with_reducible repeat (first | apply Kd.R_alloc | apply Kd.R_drewN | apply Kd.R_drew)); exact HO474.out⟩, ⟨by (with_reducible repeat (first | apply Kd.R_alloc | apply Kd.R_drewN | apply Kd.R_drew)); exact HO477.out⟩, ⟨by repeat (first | (with_reducible first | exact HB.out | apply below_alloc | apply pw_below_drewN | apply below_drew1) | exact HB.out)⟩⟩
                case round =>
                  clear H'
                  try clear c1
                  try clear c2
                  try clear p2
                  try clear c3
                  try clear c6
                  try clear c9
                  try clear c9b0
                  try clear c9b1
                  try clear c10
                  try clear c10b0
                  try clear c10b1
                  try clear c11
                  try clear c11b0
                  try clear c12
                  try clear c13
                  try clear c14
                  try clear c14b0
                  try clear c14b1
                  try clear c15
                  try clear c15b0
                  try clear c15b1
                  try clear p2
                  obtain ⟨x9_2, x10_2, x11_2, rfl, HA, HK2, HO_9, HO_10, HB⟩ := hrel
                  cases gk with
                  | zero => exact absurd HA.out (by simp [salchowlaw28_TrimmedRobust.l0])
                  | succ k2 =>
                    have H := HA.out
                    clear HA
                    simp only [salchowlaw28_TrimmedRobust.l0] at H
                    by_cases c21 : x11_2 < (l2.length : Int)
                    · rw [if_pos c21] at H
                      have c21b0 : decide (x11_2 < (l2.length : Int)) = true := decide_eq_true c21
                      clear c21
                      by_cases c22 : 0 ≤ x11_2
                      · rw [if_pos c22] at H
                        have c22b0 : decide (0 ≤ x11_2) = true := decide_eq_true c22
                        clear c22
                        by_cases c23 : (rd l2 x11_2) < 0
                        · rw [if_pos c23] at H
                          have c23b0 : decide ((rd l2 x11_2) < 0) = true := decide_eq_true c23
                          clear c23
                          obtain rfl := Option.some.inj H
                          have p478 : 0 ≤ (x11_2 : Int) := of_decide_eq_true (by first | (with_reducible assumption) | assumption)
                          have q478 : x11_2 < (l2.length : Int) := of_decide_eq_true (by first | (with_reducible assumption) | assumption)
                          obtain ⟨ad478, e478, hx478_0⟩ := Kd.at_int HR2.out x11_2 p478 q478
                          cases e478
                          (try replace hx478_0 := (HB.out.cell (World.block_lt_of_cell? w _ hx478_0)).trans hx478_0)
                          replace p478 := eq_true p478
                          replace q478 := eq_true q478
                          go_wp2
                          go_ret
                          exact ⟨by first | rfl | (simp [errW_none, errW_some] <;> rfl) | (simp [*, errW_none, errW_some] <;> rfl), by repeat (first | (with_reducible first | exact HB.out | apply below_alloc | apply pw_below_drewN | apply below_drew1) | exact HB.out)⟩
                        · rw [if_neg c23] at H
                          have c23b0 : decide ((rd l2 x11_2) < 0) = false := decide_eq_false c23
                          clear c23
                          by_cases c24 : (rd l2 x11_2) ≥ (l0.length : Int)
                          · rw [if_pos c24] at H
                            have c24b0 : decide ((l0.length : Int) ≤ (rd l2 x11_2)) = true := decide_eq_true c24
                            clear c24
                            obtain rfl := Option.some.inj H
                            have p478 : 0 ≤ (x11_2 : Int) := of_decide_eq_true (by first | (with_reducible assumption) | assumption)
                            have q478 : x11_2 < (l2.length : Int) := of_decide_eq_true (by first | (with_reducible assumption) | assumption)
                            obtain ⟨ad478, e478, hx478_0⟩ := Kd.at_int HR2.out x11_2 p478 q478
                            cases e478
                            (try replace hx478_0 := (HB.out.cell (World.block_lt_of_cell? w _ hx478_0)).trans hx478_0)
                            replace p478 := eq_true p478
                            replace q478 := eq_true q478
                            have p479 : 0 ≤ (x11_2 : Int) := of_decide_eq_true (by first | (with_reducible assumption) | assumption)
                            have q479 : x11_2 < (l2.length : Int) := of_decide_eq_true (by first | (with_reducible assumption) | assumption)
                            obtain ⟨ad479, e479, hx479_0⟩ := Kd.at_int HR2.out x11_2 p479 q479
                            obtain rfl : ad478 = ad479 := (by injection e479)
                            (try replace hx479_0 := (HB.out.cell (World.block_lt_of_cell? w _ hx479_0)).trans hx479_0)
                            replace p479 := eq_true p479
                            replace q479 := eq_true q479
                            go_wp2
                            go_ret
                            exact ⟨by first | rfl | (simp [errW_none, errW_some] <;> rfl) | (simp [*, errW_none, errW_some] <;> rfl), by repeat (first | (with_reducible first | exact HB.out | apply below_alloc | apply pw_below_drewN | apply below_drew1) | exact HB.out)⟩
                          · rw [if_neg c24] at H
                            have c24b0 : decide ((l0.length : Int) ≤ (rd l2 x11_2)) = false := decide_eq_false c24
                            clear c24
                            by_cases c25 : x11_2 < (l3.length : Int)
                            · rw [if_pos c25] at H
                              have c25b0 : decide (x11_2 < (l3.length : Int)) = true := decide_eq_true c25
                              clear c25
                              by_cases c26 : 0 ≤ (rd l2 x11_2)
                              · rw [if_pos c26] at H
                                have c26b0 : decide (0 ≤ (rd l2 x11_2)) = true := decide_eq_true c26
                                clear c26
                                by_cases c27 : (rd l2 x11_2) < (x9_2.length : Int)
                                · rw [if_pos c27] at H
                                  have c27b0 : decide ((rd l2 x11_2) < (x9_2.length : Int)) = true := decide_eq_true c27
                                  clear c27
                                  obtain ⟨y482, hy482⟩ : ∃ y_ : List Int, y_ = (x9_2.set ((rd l2 x11_2) : Int).toNat (rd l3 x11_2)) := ⟨_, rfl⟩
                                  replace H : (if (rd l2 x11_2) < (x10_2.length : Int) then (salchowlaw28_TrimmedRobust.l0 k2 l0 a1 l2 l3 y482 (x10_2.set ((rd l2 x11_2) : Int).toNat true) (wrap64 (x11_2 + 1))) else (none)) = some r := by first | (rw [hy482]; with_reducible exact H) | (have H2_ := (Option.bind_some _ _).symm.trans H; rw [hy482]; with_reducible exact H2_) | (have H2_ := (Option.bind_some _ _).symm.trans H; with_reducible exact H2_) | with_reducible exact H | (rw [hy482]; exact H) | exact H
                                  have Ny482 := Aside0.mk hy482
                                  clear hy482
                                  by_cases c29 : (rd l2 x11_2) < (x10_2.length : Int)
                                  · rw [if_pos c29] at H
                                    have c29b0 : decide ((rd l2 x11_2) < (x10_2.length : Int)) = true := decide_eq_true c29
                                    clear c29
                                    obtain ⟨y484, hy484⟩ : ∃ y_ : List Bool, y_ = (x10_2.set ((rd l2 x11_2) : Int).toNat true) := ⟨_, rfl⟩
                                    replace H : (salchowlaw28_TrimmedRobust.l0 k2 l0 a1 l2 l3 y482 y484 (wrap64 (x11_2 + 1))) = some r := by first | (rw [hy484]; with_reducible exact H) | (have H2_ := (Option.bind_some _ _).symm.trans H; rw [hy484]; with_reducible exact H2_) | (have H2_ := (Option.bind_some _ _).symm.trans H; with_reducible exact H2_) | with_reducible exact H | (rw [hy484]; exact H) | exact H
                                    have Ny484 := Aside0.mk hy484
                                    clear hy484
                                    have H' := Aside0.mk H
                                    clear H
                                    have p478 : 0 ≤ (x11_2 : Int) := of_decide_eq_true (by first | (with_reducible assumption) | assumption)
                                    have q478 : x11_2 < (l2.length : Int) := of_decide_eq_true (by first | (with_reducible assumption) | assumption)
                                    obtain ⟨ad478, e478, hx478_0⟩ := Kd.at_int HR2.out x11_2 p478 q478
                                    cases e478
                                    (try replace hx478_0 := (HB.out.cell (World.block_lt_of_cell? w _ hx478_0)).trans hx478_0)
                                    replace p478 := eq_true p478
                                    replace q478 := eq_true q478
                                    have p479 : 0 ≤ (x11_2 : Int) := of_decide_eq_true (by first | (with_reducible assumption) | assumption)
                                    have q479 : x11_2 < (l2.length : Int) := of_decide_eq_true (by first | (with_reducible assumption) | assumption)
                                    obtain ⟨ad479, e479, hx479_0⟩ := Kd.at_int HR2.out x11_2 p479 q479
                                    obtain rfl : ad478 = ad479 := (by injection e479)
                                    (try replace hx479_0 := (HB.out.cell (World.block_lt_of_cell? w _ hx479_0)).trans hx479_0)
                                    replace p479 := eq_true p479
                                    replace q479 := eq_true q479
                                    try go_wp2
                                    have n0_ := Aside0.mk (Kd.R_drew HO_9.out)
                                    have n1_ := Aside0.mk (Kd.R_drew HO_10.out)
                                    have n2_ := Aside0.mk (below_drew1 HB.out)
                                    clear HO_9
                                    clear HO_10
                                    clear HB
                                    have HO_9 := n0_
                                    have HO_10 := n1_
                                    have HB := n2_
                                    clear n0_ n1_ n2_
                                    have p480 : 0 ≤ (x11_2 : Int) := of_decide_eq_true (by first | (with_reducible assumption) | assumption)
                                    have q480 : x11_2 < (l2.length : Int) := of_decide_eq_true (by first | (with_reducible assumption) | assumption)
                                    obtain ⟨ad480, e480, hx480_0⟩ := Kd.at_int HR2.out x11_2 p480 q480
                                    have hw480_0 := hx480_0
                                    obtain rfl : ad478 = ad480 := (by injection e480)
                                    (try replace hx480_0 := (HB.out.cell (World.block_lt_of_cell? w _ hx480_0)).trans hx480_0)
                                    replace p480 := eq_true p480
                                    replace q480 := eq_true q480
                                    have p481 : 0 ≤ (x11_2 : Int) := of_decide_eq_true (by first | (with_reducible assumption) | assumption)
                                    have q481 : x11_2 < (l3.length : Int) := of_decide_eq_true (by first | (with_reducible assumption) | assumption)
                                    obtain ⟨ad481, e481, hx481_0⟩ := Kd.at_int HR3.out x11_2 p481 q481
                                    have hw481_0 := hx481_0
                                    cases e481
                                    (try replace hx481_0 := (HB.out.cell (World.block_lt_of_cell? w _ hx481_0)).trans hx481_0)
                                    replace p481 := eq_true p481
                                    replace q481 := eq_true q481
                                    have p28 : 0 ≤ ((rd l2 x11_2) : Int) := of_decide_eq_true (by first | (with_reducible assumption) | assumption)
                                    have q28 : ((rd l2 x11_2) : Int) < ((x9_2.length : Int) : Int) := of_decide_eq_true (by first | (with_reducible assumption) | assumption)
                                    obtain ⟨go28, co28, eo28, gb28, gl28, cl28, HG28⟩ := Kd.R_form HO_9.out (by omega)
                                    (first | cases eo28 | (injection eo28 with ea_ en_ ec_; (first | subst ea_ | (injection ea_ with ea_; subst ea_)); subst ec_; clear en_))
                                    have GB28 := Aside0.mk gb28
                                    have GG28 := Aside0.mk HG28
                                    clear gb28 gl28 HG28
                                    obtain ⟨hx28_0, hf28_0⟩ := Kd.R_celln 0 HO_9.out ((rd l2 x11_2) : Int) p28 q28
                                    replace p28 := eq_true p28
                                    replace q28 := eq_true q28
                                    have HP32 := Kd.R_putn HO_9.out ((rd l2 x11_2) : Int) (rd l3 x11_2)
                                    rw [← Ny482.out] at HP32
                                    have HQ32 := Aside0.mk HP32
                                    clear HP32
                                    refine start_ (n := 11) (S := fun w' => w'.cell? (ad478.add (x11_2).toNat) = some (.int .i64 (rd l2 x11_2)) ∧ w'.cell? (ad481.add (x11_2).toNat) = some (.int .i64 (rd l3 x11_2))) (ds := [10]) #[false, false, false, false, false, false, false, false, false, false, false] (by kernel_rfl) rfl rfl ⟨((HB.out.cell (World.block_lt_of_cell? w _ hw480_0)).trans hw480_0), ((HB.out.cell (World.block_lt_of_cell? w _ hw481_0)).trans hw481_0)⟩ (fun hHeld => ?_); refine with_tabW salchowlaw28_TrimmedRobust.tab12 salchowlaw28_TrimmedRobust.bits12 (fun HT_ HW_ => ?_)
                                    generalize wr.drew = w31 at HO_9 HO_10 HB GG28 HQ32 hf28_0 hx28_0 hx480_0 hx481_0 hHeld ⊢
                                    refine pure_ (i := 0) (N := some 67) (v := ?_) (a' := ?_) #[true, false, false, false, false, false, false, false, false, false, false] rfl rfl (any_of HT_.out (by kernel_rfl)) (fun _ _ _ h => h) (Or.inl ⟨by rfl, ?_⟩) ?_ ?_
                                    rotate_left
                                    · intro w'
                                      go_simp
                                      with_reducible rfl
                                    rotate_left
                                    · simp only [Act.put, List.setIfInBounds_toArray, List.set_cons_zero, List.set_cons_succ, i64_w, i32_w]
                                      rfl
                                    refine pure_ (i := 1) (N := some 68) (v := ?_) (a' := ?_) #[true, true, false, false, false, false, false, false, false, false, false] rfl rfl (any_of HT_.out (by kernel_rfl)) (fun _ _ _ h => h) (Or.inl ⟨by rfl, ?_⟩) ?_ ?_
                                    rotate_left
                                    · intro w'
                                      go_simp
                                      with_reducible rfl
                                    rotate_left
                                    · simp only [Act.put, List.setIfInBounds_toArray, List.set_cons_zero, List.set_cons_succ, i64_w, i32_w]
                                      rfl
                                    refine pure_ (i := 2) (N := some 69) (v := ?_) (a' := ?_) #[true, true, true, false, false, false, false, false, false, false, false] rfl rfl (any_of HT_.out (by kernel_rfl)) (fun _ _ _ h => h) (Or.inl ⟨by rfl, ?_⟩) ?_ ?_
                                    rotate_left
                                    · intro w'
                                      go_simp
                                      with_reducible rfl
                                    rotate_left
                                    · simp only [Act.put, List.setIfInBounds_toArray, List.set_cons_zero, List.set_cons_succ, i64_w, i32_w]
                                      rfl
                                    refine pure_ (i := 3) (N := some 70) (v := ?_) (a' := ?_) #[true, true, true, true, false, false, false, false, false, false, false] rfl rfl (any_of HT_.out (by kernel_rfl)) (fun _ _ _ h => h) (Or.inl ⟨by rfl, ?_⟩) ?_ ?_
                                    rotate_left
                                    · intro w'
                                      go_simp
                                      with_reducible rfl
                                    rotate_left
                                    · simp only [Act.put, List.setIfInBounds_toArray, List.set_cons_zero, List.set_cons_succ, i64_w, i32_w]
                                      rfl
                                    refine pure_ (i := 5) (N := some 72) (v := ?_) (a' := ?_) #[true, true, true, true, false, true, false, false, false, false, false] rfl rfl (any_of HT_.out (by kernel_rfl)) (fun _ _ _ h => h) (Or.inl ⟨by rfl, ?_⟩) ?_ ?_
                                    rotate_left
                                    · intro w'
                                      go_simp
                                      with_reducible rfl
                                    rotate_left
                                    · simp only [Act.put, List.setIfInBounds_toArray, List.set_cons_zero, List.set_cons_succ, i64_w, i32_w]
                                      rfl
                                    refine pure_ (i := 6) (N := some 73) (v := ?_) (a' := ?_) #[true, true, true, true, false, true, true, false, false, false, false] rfl rfl (any_of HT_.out (by kernel_rfl)) (fun _ _ _ h => h) (Or.inl ⟨by rfl, ?_⟩) ?_ ?_
                                    rotate_left
                                    · intro w'
                                      go_simp
                                      with_reducible rfl
                                    rotate_left
                                    · simp only [Act.put, List.setIfInBounds_toArray, List.set_cons_zero, List.set_cons_succ, i64_w, i32_w]
                                      rfl
                                    refine pure_ (i := 7) (N := some 74) (v := ?_) (a' := ?_) #[true, true, true, true, false, true, true, true, false, false, false] rfl rfl (any_of HT_.out (by kernel_rfl)) (fun _ _ _ h => h) (Or.inl ⟨by rfl, ?_⟩) ?_ ?_
                                    rotate_left
                                    · intro w'
                                      go_simp
                                      with_reducible rfl
                                    rotate_left
                                    · simp only [Act.put, List.setIfInBounds_toArray, List.set_cons_zero, List.set_cons_succ, i64_w, i32_w]
                                      rfl
                                    refine take_ (i := 4) (N := some 71) (v := ?_) (a' := ?_) #[true, true, true, true, true, true, true, true, false, false, false] rfl rfl (take_ofW HT_.out HW_.out (by kernel_rfl)) (fun _ _ _ h => h) (Or.inl ⟨by rfl, ?_⟩) hHeld ?_ ?_
                                    rotate_left
                                    · rintro w' ⟨s0, s1⟩
                                      go_simp
                                      with_reducible rfl
                                    rotate_left
                                    · simp only [Act.put, List.setIfInBounds_toArray, List.set_cons_zero, List.set_cons_succ, i64_w, i32_w]
                                      rfl
                                    refine take_ (i := 8) (N := some 75) (v := ?_) (a' := ?_) #[true, true, true, true, true, true, true, true, true, false, false] rfl rfl (take_ofW HT_.out HW_.out (by kernel_rfl)) (fun _ _ _ h => h) (Or.inl ⟨by rfl, ?_⟩) hHeld ?_ ?_
                                    rotate_left
                                    · rintro w' ⟨s0, s1⟩
                                      go_simp
                                      with_reducible rfl
                                    rotate_left
                                    · simp only [Act.put, List.setIfInBounds_toArray, List.set_cons_zero, List.set_cons_succ, i64_w, i32_w]
                                      rfl
                                    refine pure_ (i := 9) (N := some 76) (v := ?_) (a' := ?_) #[true, true, true, true, true, true, true, true, true, true, false] rfl rfl (any_of HT_.out (by kernel_rfl)) (fun _ _ _ h => h) (Or.inl ⟨by rfl, ?_⟩) ?_ ?_
                                    rotate_left
                                    · intro w'
                                      go_simp
                                      with_reducible rfl
                                    rotate_left
                                    · simp only [Act.put, List.setIfInBounds_toArray, List.set_cons_zero, List.set_cons_succ, i64_w, i32_w]
                                      rfl
                                    refine last_ (i := 10) (N := none) #[true, true, true, true, true, true, true, true, true, true, true] rfl rfl (one_of HT_.out (by kernel_rfl)) (by decide) (fun K hK => ?_)
                                    refine skip_ (w1 := ?_) (by rfl) rfl ?_ ?_
                                    rotate_left
                                    · go_simp
                                      rfl
                                    refine hK.out _ _ ?_
                                    clear hK K
                                    refine done_ (done_of HT_.out (by kernel_rfl)) ?_
                                    have n0_ : Aside0 (Kd.R (Kd.int .i64) 2 (w31.setCell ⟨go28, ((rd l2 x11_2) : Int).toNat, none⟩ (.int .i64 (rd l3 x11_2))) w.heap.size (fun _ => True) (.slice (some ⟨go28, 0, none⟩) x9_2.length co28) y482) := ⟨by (with_reducible repeat (first | apply Kd.R_alloc | apply Kd.R_drewN | apply Kd.R_drew)); exact HQ32.out⟩
                                    have n1_ : Aside0 (Kd.R Kd.bool 4 (w31.setCell ⟨go28, ((rd l2 x11_2) : Int).toNat, none⟩ (.int .i64 (rd l3 x11_2))) w.heap.size (fun _ => True) v476 x10_2) := ⟨by (with_reducible repeat (first | apply Kd.R_alloc | apply Kd.R_drewN | apply Kd.R_drew)); exact Kd.R_mono (Kd.R_far (p := ⟨go28, ((rd l2 x11_2) : Int).toNat, none⟩) (Kd.R_types HO_10.out GG28.out (by decide)) (fun _ hk => hk.2) (.int .i64 (rd l3 x11_2))) (fun _ hk => trivial)⟩
                                    have n2_ : Aside0 (Below w.heap.size w (w31.setCell ⟨go28, ((rd l2 x11_2) : Int).toNat, none⟩ (.int .i64 (rd l3 x11_2)))) := ⟨by repeat (first | (with_reducible first | exact HB.out | apply below_alloc | apply pw_below_drewN | apply below_drew1 | refine below_set ?_ GB28.out) | exact HB.out)⟩
                                    (try clear HO_9)
                                    (try clear HO_10)
                                    (try clear HB)
                                    generalize (w31.setCell ⟨go28, ((rd l2 x11_2) : Int).toNat, none⟩ (.int .i64 (rd l3 x11_2))) = w33 at n0_ n1_ n2_ ⊢
                                    have HO_9 := n0_
                                    have HO_10 := n1_
                                    have HB := n2_
                                    clear n0_ n1_ n2_
                                    have p483 : 0 ≤ (x11_2 : Int) := of_decide_eq_true (by first | (with_reducible assumption) | assumption)
                                    have q483 : x11_2 < (l2.length : Int) := of_decide_eq_true (by first | (with_reducible assumption) | assumption)
                                    obtain ⟨ad483, e483, hx483_0⟩ := Kd.at_int HR2.out x11_2 p483 q483
                                    obtain rfl : ad478 = ad483 := (by injection e483)
                                    (try replace hx483_0 := (HB.out.cell (World.block_lt_of_cell? w _ hx483_0)).trans hx483_0)
                                    replace p483 := eq_true p483
                                    replace q483 := eq_true q483
                                    have p30 : 0 ≤ ((rd l2 x11_2) : Int) := of_decide_eq_true (by first | (with_reducible assumption) | assumption)
                                    have q30 : ((rd l2 x11_2) : Int) < ((x10_2.length : Int) : Int) := of_decide_eq_true (by first | (with_reducible assumption) | assumption)
                                    obtain ⟨go30, co30, eo30, gb30, gl30, cl30, HG30⟩ := Kd.R_form HO_10.out (by omega)
                                    (first | cases eo30 | (injection eo30 with ea_ en_ ec_; (first | subst ea_ | (injection ea_ with ea_; subst ea_)); subst ec_; clear en_))
                                    have GB30 := Aside0.mk gb30
                                    have GG30 := Aside0.mk HG30
                                    clear gb30 gl30 HG30
                                    obtain ⟨hx30_0, hf30_0⟩ := Kd.R_celln false HO_10.out ((rd l2 x11_2) : Int) p30 q30
                                    replace p30 := eq_true p30
                                    replace q30 := eq_true q30
                                    obtain ⟨hy34_, hz34_⟩ := Kd.R_celln false HO_10.out ((rd l2 x11_2) : Int) (of_decide_eq_true (by first | (with_reducible assumption) | assumption)) (of_decide_eq_true (by first | (with_reducible assumption) | assumption))
                                    have HP34 := Kd.R_putg HO_10.out ((rd l2 x11_2) : Int) true
                                    try go_wp2_with (first | ((with_reducible refine gate_store (t := 4) (p := 82) rfl ?_); refine store_event (t := 4) (p := 82) (v := ?vo_w35) (w1 := (w33.setCell ⟨go30, ((rd l2 x11_2) : Int).toNat, none⟩ (.bool true))) ?hg ?ho ?hn ?hr ?_; (case ho => rfl); (case hg => rfl); (case hn => rfl); (case hr => first | (go_simp; done) | (go_simp; rfl)); intro w35 hw; have hg : w33.grownBy w35 (some go30) := (by rw [hw]; exact HP34.2); have hp_ : Kd.R Kd.bool 4 w35 w.heap.size (fun _ => True) (.slice (some ⟨go30, 0, none⟩) x10_2.length co30) y484 := (by rw [hw, Ny484.out]; exact HP34.1); clear HP34; have n0_ := Aside0.mk (Kd.R_over' (v := (.slice (some ⟨go30, 0, none⟩) x10_2.length co30)) (by (with_reducible repeat (first | apply Kd.R_alloc | apply Kd.R_drewN | apply Kd.R_drew)); exact HO_9.out) (Kd.R_typed HO_10.out) (by decide) hg); have n1_ := Aside0.mk (hp_); have n2_ := Aside0.mk ((by rw [hw]; exact below_set (HB.out) GB30.out : Below w.heap.size w w35)); clear HO_9; clear HO_10; clear HB; have HO_9 := n0_; have HO_10 := n1_; have HB := n2_; clear n0_ n1_ n2_; clear hg hw hp_))
                                    go_roundg k2
                                    case measure => have := HJ6.out; have := HK2.out; omega
                                    case rel => exact ⟨(y482), (y484), (wrap64 (x11_2 + 1)), (by first | rfl | (simp; done) | (simp [*]; done)), H', ⟨by have := HJ6.out; have := HK2.out; omega⟩, ⟨by (with_reducible repeat (first | apply Kd.R_alloc | apply Kd.R_drewN | apply Kd.R_drew)); exact HO_9.out⟩, ⟨by (with_reducible repeat (first | apply Kd.R_alloc | apply Kd.R_drewN | apply Kd.R_drew)); exact HO_10.out⟩, ⟨by repeat (first | (with_reducible first | exact HB.out | apply below_alloc | apply pw_below_drewN | apply below_drew1) | exact HB.out)⟩⟩
                                  · rw [if_neg c29] at H
                                    exact absurd H (by simp)
                                · rw [if_neg c27] at H
                                  exact absurd H (by simp)
                              · rw [if_neg c26] at H
                                exact absurd H (by simp)
                            · rw [if_neg c25] at H
                              exact absurd H (by simp)
                      · rw [if_neg c22] at H
                        exact absurd H (by simp)
                    · rw [if_neg c21] at H
                      have c21b0 : decide (x11_2 < (l2.length : Int)) = false := decide_eq_false c21
                      clear c21
                      replace H := Option.bind_eq_some_iff.mp H
                      obtain ⟨⟨t485, t486, t487⟩, A360, H⟩ := H
                      replace H : (if t487 = 0 then (salchowlaw28_TrimmedRobust.l1 k2 l0 x10_2 0 0 true 0 t485 t486) else (some true)) = some r := H
                      have A36 := Aside0.mk A360
                      clear A360
                      by_cases c37 : t487 = 0
                      · rw [if_pos c37] at H
                        have c37b0 : (t487 == 0) = true := beq_iff_eq.mpr c37
                        have c37b1 : (t487 != 0) = false := bne_eq_false_iff_eq.mpr c37
                        clear c37
                        have H' := Aside0.mk H
                        clear H
                        obtain ⟨Ao38, co38, eo38⟩ := Kd.R_slice HO_9.out
                        subst eo38
                        go_wp2_with (first | ((with_reducible refine gate_callee (f := 14) rfl ?_); refine goesL_ (some 86) rfl rfl Try.func14 (by kernel_rfl) rfl #[.slice Ao38 x9_2.length co38, .int .i64 a1] rfl (by (try simp only [List.map_toArray, List.map_cons, List.map_nil]); first | done | rfl | (simp only [List.length_drop, List.length_take]; rfl)) ?_; (with_reducible refine (trimmed_Mean.calls k2 _ _ x9_2 a1 t485 t486 t487 _ ?side1 ?side2 A36.out).mono ?_); (case side1 => repeat (first | exact (Kd.R_reads' HO_9.out).2.2 | (with_reducible refine Kd.C_alloc ?_ _) | (with_reducible refine Kd.C_drewN ?_ _) | (with_reducible refine Kd.C_drew ?_))); (case side2 => exact (Kd.R_reads' HO_9.out).2.1); rintro e w39 ⟨rfl, hb⟩; refine ⟨_, rfl, ?_⟩; have n0_ := Aside0.mk (Kd.R_below (by (with_reducible repeat (first | apply Kd.R_alloc | apply Kd.R_drewN | apply Kd.R_drew)); exact HO_9.out) hb); have n1_ := Aside0.mk (Kd.R_below (by (with_reducible repeat (first | apply Kd.R_alloc | apply Kd.R_drewN | apply Kd.R_drew)); exact HO_10.out) hb); have n2_ := Aside0.mk (below_step (by repeat (first | (with_reducible first | exact HB.out | apply below_alloc | apply pw_below_drewN | apply below_drew1) | exact HB.out)) hb); clear HO_9; clear HO_10; clear HB; have HO_9 := n0_; have HO_10 := n1_; have HB := n2_; clear n0_ n1_ n2_; (try clear hb); (try clear hb2); (try clear hk); (try clear hi)) | ((with_reducible refine gate_dst (N := 12) rfl ?_); (try (refine gate_guard (by rfl) ?_; dsimp only)); refine box_event ?hg (N := 12) ?hd (cs := #[.int .i64 0, .int .i64 0]) (t := 31) ?hr ?_; (case hd => rfl); (case hg => rfl); (case hr => first | (go_simp; done) | (go_simp; rfl)); intro gb488 hg w40 hbox hb; have n0_ := Aside0.mk (Kd.R_below (by (with_reducible repeat (first | apply Kd.R_alloc | apply Kd.R_drewN | apply Kd.R_drew)); exact HO_9.out) hb); have n1_ := Aside0.mk (Kd.R_below (by (with_reducible repeat (first | apply Kd.R_alloc | apply Kd.R_drewN | apply Kd.R_drew)); exact HO_10.out) hb); have n2_ := Aside0.mk (below_step (by repeat (first | (with_reducible first | exact HB.out | apply below_alloc | apply pw_below_drewN | apply below_drew1) | exact HB.out)) hb); have n3_ := Aside0.mk (hbox); have n4_ := Aside0.mk ((by rw [hg]; exact (below_size (by repeat (first | (with_reducible first | exact HB.out | apply below_alloc | apply pw_below_drewN | apply below_drew1) | exact HB.out))) : w.heap.size ≤ gb488)); have n5_ := Aside0.mk ((by rw [hg]; exact (below_size (by repeat (first | (with_reducible first | exact HB.out | apply below_alloc | apply pw_below_drewN | apply below_drew1) | exact HB.out))) : w.heap.size ≤ gb488)); clear HO_9; clear HO_10; clear HB; have HO_9 := n0_; have HO_10 := n1_; have HB := n2_; have BK488 := n3_; have GW488 := n4_; have GE488 := n5_; clear n0_ n1_ n2_ n3_ n4_ n5_; clear hb hbox hg; have hcz41_0 : w40.cell? ⟨gb488, 0, none⟩ = some (.int .i64 0) := (blk_cell BK488.out 0).trans rfl; have hcz41_1 : w40.cell? ⟨gb488, 1, none⟩ = some (.int .i64 0) := (blk_cell BK488.out 1).trans rfl; have hfz41_0 := blk_frozen BK488.out 0; have hfz41_1 := blk_frozen BK488.out 1))
                        (try simp only [Act.put, List.setIfInBounds_toArray, List.set_cons_zero, List.set_cons_succ])
                        go_loopg [14, 15, 16, 17] k2 (fun kq v14 v15 v16 v17 w' => ∃ (x14_3 : Int) (x15_3 : Int) (x16_3 : Bool) (x17_3 : Int), v14 = .int .i64 x14_3 ∧ v15 = .int .i64 x15_3 ∧ v16 = .bool x16_3 ∧ v17 = .int .i64 x17_3 ∧ Aside0 (salchowlaw28_TrimmedRobust.l1 kq l0 x10_2 x14_3 x15_3 x16_3 x17_3 t485 t486 = some r) ∧ Aside0 (kq ≤ k2) ∧ Aside0 (Kd.R Kd.bool 4 w' w.heap.size (fun _ => True) v476 x10_2) ∧ Aside0 (w'.heap[gb488]? = some (.cells #[.int .i64 t485, .int .i64 t486] 31 (0, 0))) ∧ Aside0 (Below w.heap.size w w'))
                        case atStart => exact ⟨(0), (0), (true), (0), (by first | rfl | (simp; done) | (simp [*]; done)), (by first | rfl | (simp; done) | (simp [*]; done)), (by first | rfl | (simp; done) | (simp [*]; done)), (by first | rfl | (simp; done) | (simp [*]; done)), H', ⟨Nat.le_refl _⟩, ⟨by (with_reducible repeat (first | apply Kd.R_alloc | apply Kd.R_drewN | apply Kd.R_drew)); exact Kd.R_mono (Kd.R_far (p := ⟨gb488, 1, none⟩) (Kd.R_far (p := ⟨gb488, 0, none⟩) (Kd.R_types HO_10.out BK488.out (by decide)) (fun _ hk => hk.2) (.int .i64 t485)) (fun _ hk => hk.2) (.int .i64 t486)) (fun _ hk => trivial)⟩, ⟨by (with_reducible repeat (first | refine blk_drewN ?_ _ | refine blk_drew ?_ | refine blk_alloc ?_ _)); refine blk_put (cs := #[.int .i64 t485, .int .i64 0]) ?_ 1 _ rfl; (with_reducible repeat (first | refine blk_drewN ?_ _ | refine blk_drew ?_ | refine blk_alloc ?_ _)); refine blk_put (cs := #[.int .i64 0, .int .i64 0]) ?_ 0 _ rfl; (with_reducible repeat (first | refine blk_drewN ?_ _ | refine blk_drew ?_ | refine blk_alloc ?_ _)); exact BK488.out⟩, ⟨by repeat (first | (with_reducible first | exact HB.out | apply below_alloc | apply pw_below_drewN | apply below_drew1 | refine below_set ?_ GE488.out) | exact HB.out)⟩⟩
                        case round =>
                          clear H'
                          try clear c1
                          try clear c2
                          try clear p2
                          try clear q2
                          try clear hx2
                          try clear c3
                          try clear p3
                          try clear q3
                          try clear hx3
                          try clear p4
                          try clear q4
                          try clear hx4
                          try clear c6
                          try clear p6
                          try clear c9
                          try clear c9b0
                          try clear c9b1
                          try clear c10
                          try clear c10b0
                          try clear c10b1
                          try clear c11
                          try clear c11b0
                          try clear c12
                          try clear c13
                          try clear c14
                          try clear c14b0
                          try clear c14b1
                          try clear c15
                          try clear c15b0
                          try clear c15b1
                          try clear c21
                          try clear c21b0
                          try clear c22
                          try clear c22b0
                          try clear c23
                          try clear c23b0
                          try clear c24
                          try clear c24b0
                          try clear c25
                          try clear c25b0
                          try clear c26
                          try clear c26b0
                          try clear c27
                          try clear c27b0
                          try clear p28
                          try clear q28
                          try clear hx28
                          try clear hf28
                          try clear c29
                          try clear c29b0
                          try clear p30
                          try clear q30
                          try clear hx30
                          try clear hf30
                          try clear c37
                          try clear c37b0
                          try clear c37b1
                          try clear hcz41_0
                          try clear hcz41_1
                          try clear hfz41_0
                          try clear hfz41_1
                          try clear hx28_0
                          try clear hx30_0
                          try clear hx478_0
                          try clear hx479_0
                          try clear hx480_0
                          try clear hx481_0
                          try clear hx483_0
                          try clear p2
                          try clear p28
                          try clear p30
                          try clear p478
                          try clear p479
                          try clear p480
                          try clear p481
                          try clear p483
                          try clear q28
                          try clear q30
                          try clear q478
                          try clear q479
                          try clear q480
                          try clear q481
                          try clear q483
                          obtain ⟨x14_3, x15_3, x16_3, x17_3, rfl, rfl, rfl, rfl, HA, HK3, HO_10, BK488, HB⟩ := hrel
                          cases gk with
                          | zero => exact absurd HA.out (by simp [salchowlaw28_TrimmedRobust.l1])
                          | succ k3 =>
                            have H := HA.out
                            clear HA
                            simp only [salchowlaw28_TrimmedRobust.l1] at H
                            by_cases c42 : x17_3 < (l0.length : Int)
                            · rw [if_pos c42] at H
                              have c42b0 : decide (x17_3 < (l0.length : Int)) = true := decide_eq_true c42
                              clear c42
                              by_cases c43 : 0 ≤ x17_3
                              · rw [if_pos c43] at H
                                have c43b0 : decide (0 ≤ x17_3) = true := decide_eq_true c43
                                clear c43
                                by_cases c44 : x17_3 < (x10_2.length : Int)
                                · rw [if_pos c44] at H
                                  have c44b0 : decide (x17_3 < (x10_2.length : Int)) = true := decide_eq_true c44
                                  clear c44
                                  obtain ⟨bq45, hbq45⟩ : ∃ b_ : Bool, b_ = (rdOf false x10_2 x17_3) := ⟨_, rfl⟩
                                  replace H : (if bq45 = true then (salchowlaw28_TrimmedRobust.l1 k3 l0 x10_2 x14_3 x15_3 x16_3 (wrap64 (x17_3 + 1)) t485 t486) else (if x16_3 = true then (salchowlaw28_TrimmedRobust.j3 k3 l0 x10_2 x14_3 x15_3 x16_3 x17_3 true t485 t486) else (salchowlaw28_TrimmedRobust.j3 k3 l0 x10_2 x14_3 x15_3 x16_3 x17_3 (decide ((rd l0 x17_3) < x14_3)) t485 t486))) = some r := by rw [← hbq45] at H; exact H
                                  have Nbq45 := Aside0.mk hbq45
                                  clear hbq45
                                  by_cases c46 : bq45 = true
                                  · subst c46
                                    have H1 : (salchowlaw28_TrimmedRobust.l1 k3 l0 x10_2 x14_3 x15_3 x16_3 (wrap64 (x17_3 + 1)) t485 t486) = some r := by rw [if_pos rfl] at H; exact H
                                    clear H
                                    have H := H1
                                    clear H1
                                    have H' := Aside0.mk H
                                    clear H
                                    obtain ⟨Ao47, co47, eo47⟩ := Kd.R_slice HO_10.out
                                    subst eo47
                                    have p489 : 0 ≤ (x17_3 : Int) := of_decide_eq_true (by first | (with_reducible assumption) | assumption)
                                    have q489 : x17_3 < (x10_2.length : Int) := of_decide_eq_true (by first | (with_reducible assumption) | assumption)
                                    obtain ⟨ad489, e489, hx489_0⟩ := Kd.at_bool (Kd.R_reads' HO_10.out).2.2 x17_3 p489 q489
                                    (try rw [← Nbq45.out] at hx489_0)
                                    cases e489
                                    replace p489 := eq_true p489
                                    replace q489 := eq_true q489
                                    go_wp2
                                    go_roundg k3
                                    case measure => have := HJ6.out; have := HK2.out; have := HK3.out; omega
                                    case rel => exact ⟨(x14_3), (x15_3), (x16_3), (wrap64 (x17_3 + 1)), (by first | rfl | (simp; done) | (simp [*]; done)), (by first | rfl | (simp; done) | (simp [*]; done)), (by first | rfl | (simp; done) | (simp [*]; done)), (by first | rfl | (simp; done) | (simp [*]; done)), H', ⟨by have := HJ6.out; have := HK2.out; have := HK3.out; omega⟩, ⟨by (with_reducible repeat (first | apply Kd.R_alloc | apply Kd.R_drewN | apply Kd.R_drew)); exact HO_10.out⟩, ⟨by (with_reducible repeat (first | refine blk_drewN ?_ _ | refine blk_drew ?_ | refine blk_alloc ?_ _)); exact BK488.out⟩, ⟨by repeat (first | (with_reducible first | exact HB.out | apply below_alloc | apply pw_below_drewN | apply below_drew1 | refine below_set ?_ GE488.out) | exact HB.out)⟩⟩
                                  · replace c46 := Bool.eq_false_iff.mpr c46
                                    subst c46
                                    have H1 : (if x16_3 = true then (salchowlaw28_TrimmedRobust.j3 k3 l0 x10_2 x14_3 x15_3 x16_3 x17_3 true t485 t486) else (salchowlaw28_TrimmedRobust.j3 k3 l0 x10_2 x14_3 x15_3 x16_3 x17_3 (decide ((rd l0 x17_3) < x14_3)) t485 t486)) = some r := by rw [if_neg (show ¬ (false = true) by decide)] at H; exact H
                                    clear H
                                    have H := H1
                                    clear H1
                                    have HC48 := Aside0.mk H
                                    clear H
                                    obtain ⟨Ao49, co49, eo49⟩ := Kd.R_slice HO_10.out
                                    subst eo49
                                    have p489 : 0 ≤ (x17_3 : Int) := of_decide_eq_true (by first | (with_reducible assumption) | assumption)
                                    have q489 : x17_3 < (x10_2.length : Int) := of_decide_eq_true (by first | (with_reducible assumption) | assumption)
                                    obtain ⟨ad489, e489, hx489_0⟩ := Kd.at_bool (Kd.R_reads' HO_10.out).2.2 x17_3 p489 q489
                                    (try rw [← Nbq45.out] at hx489_0)
                                    cases e489
                                    replace p489 := eq_true p489
                                    replace q489 := eq_true q489
                                    go_upto_region 23 with (fail)
                                    go_cut [109] (fun v109 wc => ∃ (kq : Nat) (x109_47 : Bool), v109 = .bool x109_47 ∧ Aside0 (salchowlaw28_TrimmedRobust.j3 kq l0 x10_2 x14_3 x15_3 x16_3 x17_3 x109_47 t485 t486 = some r) ∧ Aside0 (kq ≤ k3) ∧ Aside0 (Kd.R Kd.bool 4 wc w.heap.size (fun _ => True) (.slice (some ad489) x10_2.length co49) x10_2) ∧ Aside0 (wc.heap[gb488]? = some (.cells #[.int .i64 t485, .int .i64 t486] 31 (0, 0))) ∧ Aside0 (Below w.heap.size w wc))
                                    case first =>
                                      have H := HC48.out
                                      clear HC48
                                      by_cases c50 : x16_3 = true
                                      · subst c50
                                        have H1 : (salchowlaw28_TrimmedRobust.j3 k3 l0 x10_2 x14_3 x15_3 true x17_3 true t485 t486) = some r := by rw [if_pos rfl] at H; exact H
                                        clear H
                                        have H := H1
                                        clear H1
                                        have H' := Aside0.mk H
                                        clear H
                                        go_wp2
                                        go_meet
                                        case rel => exact ⟨_, (true), (by first | rfl | (simp; done) | (simp [*]; done)), H', ⟨by have := HJ6.out; have := HK2.out; have := HK3.out; first | omega | exact Nat.le_refl _⟩, ⟨by (with_reducible repeat (first | apply Kd.R_alloc | apply Kd.R_drewN | apply Kd.R_drew)); exact HO_10.out⟩, ⟨by (with_reducible repeat (first | refine blk_drewN ?_ _ | refine blk_drew ?_ | refine blk_alloc ?_ _)); exact BK488.out⟩, ⟨by repeat (first | (with_reducible first | exact HB.out | apply below_alloc | apply pw_below_drewN | apply below_drew1 | refine below_set ?_ GE488.out) | exact HB.out)⟩⟩
                                      · replace c50 := Bool.eq_false_iff.mpr c50
                                        subst c50
                                        have H1 : (salchowlaw28_TrimmedRobust.j3 k3 l0 x10_2 x14_3 x15_3 false x17_3 (decide ((rd l0 x17_3) < x14_3)) t485 t486) = some r := by rw [if_neg (show ¬ (false = true) by decide)] at H; exact H
                                        clear H
                                        have H := H1
                                        clear H1
                                        have H' := Aside0.mk H
                                        clear H
                                        have p490 : 0 ≤ (x17_3 : Int) := of_decide_eq_true (by first | (with_reducible assumption) | assumption)
                                        have q490 : x17_3 < (l0.length : Int) := of_decide_eq_true (by first | (with_reducible assumption) | assumption)
                                        obtain ⟨ad490, e490, hx490_0⟩ := Kd.at_int HR0.out x17_3 p490 q490
                                        cases e490
                                        (try replace hx490_0 := (HB.out.cell (World.block_lt_of_cell? w _ hx490_0)).trans hx490_0)
                                        replace p490 := eq_true p490
                                        replace q490 := eq_true q490
                                        go_wp2
                                        go_meet
                                        case rel => exact ⟨_, (decide ((rd l0 x17_3) < x14_3)), (by first | rfl | (simp; done) | (simp [*]; done)), H', ⟨by have := HJ6.out; have := HK2.out; have := HK3.out; first | omega | exact Nat.le_refl _⟩, ⟨by (with_reducible repeat (first | apply Kd.R_alloc | apply Kd.R_drewN | apply Kd.R_drew)); exact HO_10.out⟩, ⟨by (with_reducible repeat (first | refine blk_drewN ?_ _ | refine blk_drew ?_ | refine blk_alloc ?_ _)); exact BK488.out⟩, ⟨by repeat (first | (with_reducible first | exact HB.out | apply below_alloc | apply pw_below_drewN | apply below_drew1 | refine below_set ?_ GE488.out) | exact HB.out)⟩⟩
                                    case rest =>
                                      clear HC48
                                      try clear c1
                                      try clear c2
                                      try clear p2
                                      try clear q2
                                      try clear hx2
                                      try clear c3
                                      try clear p3
                                      try clear q3
                                      try clear hx3
                                      try clear c4
                                      try clear p4
                                      try clear q4
                                      try clear hx4
                                      try clear c5
                                      try clear c6
                                      try clear p6
                                      try clear c9
                                      try clear c9b0
                                      try clear c9b1
                                      try clear c10
                                      try clear c10b0
                                      try clear c10b1
                                      try clear c11
                                      try clear c11b0
                                      try clear c12
                                      try clear c13
                                      try clear c14
                                      try clear c14b0
                                      try clear c14b1
                                      try clear c15
                                      try clear c15b0
                                      try clear c15b1
                                      try clear c21
                                      try clear c21b0
                                      try clear c22
                                      try clear c22b0
                                      try clear c23
                                      try clear c23b0
                                      try clear c24
                                      try clear c24b0
                                      try clear c25
                                      try clear c25b0
                                      try clear c26
                                      try clear c26b0
                                      try clear c27
                                      try clear c27b0
                                      try clear p28
                                      try clear q28
                                      try clear hx28
                                      try clear hf28
                                      try clear c29
                                      try clear c29b0
                                      try clear p30
                                      try clear q30
                                      try clear hx30
                                      try clear hf30
                                      try clear c37
                                      try clear c37b0
                                      try clear c37b1
                                      try clear c42
                                      try clear c42b0
                                      try clear c43
                                      try clear c43b0
                                      try clear c44
                                      try clear c44b0
                                      try clear q45
                                      try clear c46
                                      try clear p47
                                      try clear q47
                                      try clear hx47
                                      try clear p48
                                      try clear q48
                                      try clear hx48
                                      try clear p49
                                      try clear q49
                                      try clear hx49
                                      try clear c50
                                      try clear hcz41_0
                                      try clear hcz41_1
                                      try clear hfz41_0
                                      try clear hfz41_1
                                      try clear hx28_0
                                      try clear hx30_0
                                      try clear hx478_0
                                      try clear hx479_0
                                      try clear hx480_0
                                      try clear hx481_0
                                      try clear hx483_0
                                      try clear hx489_0
                                      try clear hx490_0
                                      try clear p2
                                      try clear p28
                                      try clear p3
                                      try clear p30
                                      try clear p4
                                      try clear p478
                                      try clear p479
                                      try clear p480
                                      try clear p481
                                      try clear p483
                                      try clear p489
                                      try clear p490
                                      try clear p6
                                      try clear q2
                                      try clear q28
                                      try clear q3
                                      try clear q30
                                      try clear q4
                                      try clear q478
                                      try clear q479
                                      try clear q480
                                      try clear q481
                                      try clear q483
                                      try clear q489
                                      try clear q490
                                      obtain ⟨kq, x109_47, rfl, HA, HJ47, HO_10, BK488, HB⟩ := hcut
                                      cases kq with
                                      | zero => exact absurd HA.out (by simp [salchowlaw28_TrimmedRobust.j3])
                                      | succ kj47 =>
                                        have H := HA.out
                                        clear HA
                                        simp only [salchowlaw28_TrimmedRobust.j3] at H
                                        by_cases c51 : x109_47 = true
                                        · subst c51
                                          have H1 : (if 0 ≤ x17_3 then (if x17_3 < (l0.length : Int) then (if x16_3 = true then (salchowlaw28_TrimmedRobust.l1 kj47 l0 x10_2 (rd l0 x17_3) (rd l0 x17_3) false (wrap64 (x17_3 + 1)) t485 t486) else (if (rd l0 x17_3) > x15_3 then (salchowlaw28_TrimmedRobust.l1 kj47 l0 x10_2 (rd l0 x17_3) (rd l0 x17_3) false (wrap64 (x17_3 + 1)) t485 t486) else (salchowlaw28_TrimmedRobust.l1 kj47 l0 x10_2 (rd l0 x17_3) x15_3 false (wrap64 (x17_3 + 1)) t485 t486))) else (none)) else (none)) = some r := by rw [if_pos rfl] at H; exact H
                                          clear H
                                          have H := H1
                                          clear H1
                                          by_cases c52 : 0 ≤ x17_3
                                          · rw [if_pos c52] at H
                                            have c52b0 : decide (0 ≤ x17_3) = true := decide_eq_true c52
                                            clear c52
                                            by_cases c53 : x17_3 < (l0.length : Int)
                                            · rw [if_pos c53] at H
                                              have c53b0 : decide (x17_3 < (l0.length : Int)) = true := decide_eq_true c53
                                              clear c53
                                              by_cases c54 : x16_3 = true
                                              · subst c54
                                                have H1 : (salchowlaw28_TrimmedRobust.l1 kj47 l0 x10_2 (rd l0 x17_3) (rd l0 x17_3) false (wrap64 (x17_3 + 1)) t485 t486) = some r := by rw [if_pos rfl] at H; exact H
                                                clear H
                                                have H := H1
                                                clear H1
                                                have H' := Aside0.mk H
                                                clear H
                                                have p491 : 0 ≤ (x17_3 : Int) := of_decide_eq_true (by first | (with_reducible assumption) | assumption)
                                                have q491 : x17_3 < (l0.length : Int) := of_decide_eq_true (by first | (with_reducible assumption) | assumption)
                                                obtain ⟨ad491, e491, hx491_0⟩ := Kd.at_int HR0.out x17_3 p491 q491
                                                cases e491
                                                (try replace hx491_0 := (HB.out.cell (World.block_lt_of_cell? w _ hx491_0)).trans hx491_0)
                                                replace p491 := eq_true p491
                                                replace q491 := eq_true q491
                                                have p492 : 0 ≤ (x17_3 : Int) := of_decide_eq_true (by first | (with_reducible assumption) | assumption)
                                                have q492 : x17_3 < (l0.length : Int) := of_decide_eq_true (by first | (with_reducible assumption) | assumption)
                                                obtain ⟨ad492, e492, hx492_0⟩ := Kd.at_int HR0.out x17_3 p492 q492
                                                obtain rfl : ad491 = ad492 := (by injection e492)
                                                (try replace hx492_0 := (HB.out.cell (World.block_lt_of_cell? w _ hx492_0)).trans hx492_0)
                                                replace p492 := eq_true p492
                                                replace q492 := eq_true q492
                                                go_wp2
                                                go_roundg kj47
                                                case measure => have := HJ6.out; have := HK2.out; have := HK3.out; have := HJ47.out; omega
                                                case rel => exact ⟨(rd l0 x17_3), (rd l0 x17_3), (false), (wrap64 (x17_3 + 1)), (by first | rfl | (simp; done) | (simp [*]; done)), (by first | rfl | (simp; done) | (simp [*]; done)), (by first | rfl | (simp; done) | (simp [*]; done)), (by first | rfl | (simp; done) | (simp [*]; done)), H', ⟨by have := HJ6.out; have := HK2.out; have := HK3.out; have := HJ47.out; omega⟩, ⟨by (with_reducible repeat (first | apply Kd.R_alloc | apply Kd.R_drewN | apply Kd.R_drew)); exact HO_10.out⟩, ⟨by (with_reducible repeat (first | refine blk_drewN ?_ _ | refine blk_drew ?_ | refine blk_alloc ?_ _)); exact BK488.out⟩, ⟨by repeat (first | (with_reducible first | exact HB.out | apply below_alloc | apply pw_below_drewN | apply below_drew1 | refine below_set ?_ GE488.out) | exact HB.out)⟩⟩
                                              · replace c54 := Bool.eq_false_iff.mpr c54
                                                subst c54
                                                have H1 : (if (rd l0 x17_3) > x15_3 then (salchowlaw28_TrimmedRobust.l1 kj47 l0 x10_2 (rd l0 x17_3) (rd l0 x17_3) false (wrap64 (x17_3 + 1)) t485 t486) else (salchowlaw28_TrimmedRobust.l1 kj47 l0 x10_2 (rd l0 x17_3) x15_3 false (wrap64 (x17_3 + 1)) t485 t486)) = some r := by rw [if_neg (show ¬ (false = true) by decide)] at H; exact H
                                                clear H
                                                have H := H1
                                                clear H1
                                                by_cases c55 : (rd l0 x17_3) > x15_3
                                                · rw [if_pos c55] at H
                                                  have c55b0 : decide (x15_3 < (rd l0 x17_3)) = true := decide_eq_true c55
                                                  clear c55
                                                  have H' := Aside0.mk H
                                                  clear H
                                                  have p491 : 0 ≤ (x17_3 : Int) := of_decide_eq_true (by first | (with_reducible assumption) | assumption)
                                                  have q491 : x17_3 < (l0.length : Int) := of_decide_eq_true (by first | (with_reducible assumption) | assumption)
                                                  obtain ⟨ad491, e491, hx491_0⟩ := Kd.at_int HR0.out x17_3 p491 q491
                                                  cases e491
                                                  (try replace hx491_0 := (HB.out.cell (World.block_lt_of_cell? w _ hx491_0)).trans hx491_0)
                                                  replace p491 := eq_true p491
                                                  replace q491 := eq_true q491
                                                  have p493 : 0 ≤ (x17_3 : Int) := of_decide_eq_true (by first | (with_reducible assumption) | assumption)
                                                  have q493 : x17_3 < (l0.length : Int) := of_decide_eq_true (by first | (with_reducible assumption) | assumption)
                                                  obtain ⟨ad493, e493, hx493_0⟩ := Kd.at_int HR0.out x17_3 p493 q493
                                                  obtain rfl : ad491 = ad493 := (by injection e493)
                                                  (try replace hx493_0 := (HB.out.cell (World.block_lt_of_cell? w _ hx493_0)).trans hx493_0)
                                                  replace p493 := eq_true p493
                                                  replace q493 := eq_true q493
                                                  have p494 : 0 ≤ (x17_3 : Int) := of_decide_eq_true (by first | (with_reducible assumption) | assumption)
                                                  have q494 : x17_3 < (l0.length : Int) := of_decide_eq_true (by first | (with_reducible assumption) | assumption)
                                                  obtain ⟨ad494, e494, hx494_0⟩ := Kd.at_int HR0.out x17_3 p494 q494
                                                  obtain rfl : ad491 = ad494 := (by injection e494)
                                                  (try replace hx494_0 := (HB.out.cell (World.block_lt_of_cell? w _ hx494_0)).trans hx494_0)
                                                  replace p494 := eq_true p494
                                                  replace q494 := eq_true q494
                                                  go_wp2
                                                  go_roundg kj47
                                                  case measure => have := HJ6.out; have := HK2.out; have := HK3.out; have := HJ47.out; omega
                                                  case rel => exact ⟨(rd l0 x17_3), (rd l0 x17_3), (false), (wrap64 (x17_3 + 1)), (by first | rfl | (simp; done) | (simp [*]; done)), (by first | rfl | (simp; done) | (simp [*]; done)), (by first | rfl | (simp; done) | (simp [*]; done)), (by first | rfl | (simp; done) | (simp [*]; done)), H', ⟨by have := HJ6.out; have := HK2.out; have := HK3.out; have := HJ47.out; omega⟩, ⟨by (with_reducible repeat (first | apply Kd.R_alloc | apply Kd.R_drewN | apply Kd.R_drew)); exact HO_10.out⟩, ⟨by (with_reducible repeat (first | refine blk_drewN ?_ _ | refine blk_drew ?_ | refine blk_alloc ?_ _)); exact BK488.out⟩, ⟨by repeat (first | (with_reducible first | exact HB.out | apply below_alloc | apply pw_below_drewN | apply below_drew1 | refine below_set ?_ GE488.out) | exact HB.out)⟩⟩
                                                · rw [if_neg c55] at H
                                                  have c55b0 : decide (x15_3 < (rd l0 x17_3)) = false := decide_eq_false c55
                                                  clear c55
                                                  have H' := Aside0.mk H
                                                  clear H
                                                  have p491 : 0 ≤ (x17_3 : Int) := of_decide_eq_true (by first | (with_reducible assumption) | assumption)
                                                  have q491 : x17_3 < (l0.length : Int) := of_decide_eq_true (by first | (with_reducible assumption) | assumption)
                                                  obtain ⟨ad491, e491, hx491_0⟩ := Kd.at_int HR0.out x17_3 p491 q491
                                                  cases e491
                                                  (try replace hx491_0 := (HB.out.cell (World.block_lt_of_cell? w _ hx491_0)).trans hx491_0)
                                                  replace p491 := eq_true p491
                                                  replace q491 := eq_true q491
                                                  have p493 : 0 ≤ (x17_3 : Int) := of_decide_eq_true (by first | (with_reducible assumption) | assumption)
                                                  have q493 : x17_3 < (l0.length : Int) := of_decide_eq_true (by first | (with_reducible assumption) | assumption)
                                                  obtain ⟨ad493, e493, hx493_0⟩ := Kd.at_int HR0.out x17_3 p493 q493
                                                  obtain rfl : ad491 = ad493 := (by injection e493)
                                                  (try replace hx493_0 := (HB.out.cell (World.block_lt_of_cell? w _ hx493_0)).trans hx493_0)
                                                  replace p493 := eq_true p493
                                                  replace q493 := eq_true q493
                                                  go_wp2
                                                  go_roundg kj47
                                                  case measure => have := HJ6.out; have := HK2.out; have := HK3.out; have := HJ47.out; omega
                                                  case rel => exact ⟨(rd l0 x17_3), (x15_3), (false), (wrap64 (x17_3 + 1)), (by first | rfl | (simp; done) | (simp [*]; done)), (by first | rfl | (simp; done) | (simp [*]; done)), (by first | rfl | (simp; done) | (simp [*]; done)), (by first | rfl | (simp; done) | (simp [*]; done)), H', ⟨by have := HJ6.out; have := HK2.out; have := HK3.out; have := HJ47.out; omega⟩, ⟨by (with_reducible repeat (first | apply Kd.R_alloc | apply Kd.R_drewN | apply Kd.R_drew)); exact HO_10.out⟩, ⟨by (with_reducible repeat (first | refine blk_drewN ?_ _ | refine blk_drew ?_ | refine blk_alloc ?_ _)); exact BK488.out⟩, ⟨by repeat (first | (with_reducible first | exact HB.out | apply below_alloc | apply pw_below_drewN | apply below_drew1 | refine below_set ?_ GE488.out) | exact HB.out)⟩⟩
                                            · rw [if_neg c53] at H
                                              exact absurd H (by simp)
                                          · rw [if_neg c52] at H
                                            exact absurd H (by simp)
                                        · replace c51 := Bool.eq_false_iff.mpr c51
                                          subst c51
                                          have H1 : (if x16_3 = true then (if 0 ≤ x17_3 then (if x17_3 < (l0.length : Int) then (salchowlaw28_TrimmedRobust.l1 kj47 l0 x10_2 x14_3 (rd l0 x17_3) false (wrap64 (x17_3 + 1)) t485 t486) else (none)) else (none)) else (if 0 ≤ x17_3 then (if x17_3 < (l0.length : Int) then (if (rd l0 x17_3) > x15_3 then (salchowlaw28_TrimmedRobust.l1 kj47 l0 x10_2 x14_3 (rd l0 x17_3) false (wrap64 (x17_3 + 1)) t485 t486) else (salchowlaw28_TrimmedRobust.l1 kj47 l0 x10_2 x14_3 x15_3 false (wrap64 (x17_3 + 1)) t485 t486)) else (none)) else (none))) = some r := by rw [if_neg (show ¬ (false = true) by decide)] at H; exact H
                                          clear H
                                          have H := H1
                                          clear H1
                                          by_cases c56 : x16_3 = true
                                          · subst c56
                                            have H1 : (if 0 ≤ x17_3 then (if x17_3 < (l0.length : Int) then (salchowlaw28_TrimmedRobust.l1 kj47 l0 x10_2 x14_3 (rd l0 x17_3) false (wrap64 (x17_3 + 1)) t485 t486) else (none)) else (none)) = some r := by rw [if_pos rfl] at H; exact H
                                            clear H
                                            have H := H1
                                            clear H1
                                            by_cases c57 : 0 ≤ x17_3
                                            · rw [if_pos c57] at H
                                              have c57b0 : decide (0 ≤ x17_3) = true := decide_eq_true c57
                                              clear c57
                                              by_cases c58 : x17_3 < (l0.length : Int)
                                              · rw [if_pos c58] at H
                                                have c58b0 : decide (x17_3 < (l0.length : Int)) = true := decide_eq_true c58
                                                clear c58
                                                have H' := Aside0.mk H
                                                clear H
                                                have p495 : 0 ≤ (x17_3 : Int) := of_decide_eq_true (by first | (with_reducible assumption) | assumption)
                                                have q495 : x17_3 < (l0.length : Int) := of_decide_eq_true (by first | (with_reducible assumption) | assumption)
                                                obtain ⟨ad495, e495, hx495_0⟩ := Kd.at_int HR0.out x17_3 p495 q495
                                                cases e495
                                                (try replace hx495_0 := (HB.out.cell (World.block_lt_of_cell? w _ hx495_0)).trans hx495_0)
                                                replace p495 := eq_true p495
                                                replace q495 := eq_true q495
                                                go_wp2
                                                go_roundg kj47
                                                case measure => have := HJ6.out; have := HK2.out; have := HK3.out; have := HJ47.out; omega
                                                case rel => exact ⟨(x14_3), (rd l0 x17_3), (false), (wrap64 (x17_3 + 1)), (by first | rfl | (simp; done) | (simp [*]; done)), (by first | rfl | (simp; done) | (simp [*]; done)), (by first | rfl | (simp; done) | (simp [*]; done)), (by first | rfl | (simp; done) | (simp [*]; done)), H', ⟨by have := HJ6.out; have := HK2.out; have := HK3.out; have := HJ47.out; omega⟩, ⟨by (with_reducible repeat (first | apply Kd.R_alloc | apply Kd.R_drewN | apply Kd.R_drew)); exact HO_10.out⟩, ⟨by (with_reducible repeat (first | refine blk_drewN ?_ _ | refine blk_drew ?_ | refine blk_alloc ?_ _)); exact BK488.out⟩, ⟨by repeat (first | (with_reducible first | exact HB.out | apply below_alloc | apply pw_below_drewN | apply below_drew1 | refine below_set ?_ GE488.out) | exact HB.out)⟩⟩
                                              · rw [if_neg c58] at H
                                                exact absurd H (by simp)
                                            · rw [if_neg c57] at H
                                              exact absurd H (by simp)
                                          · replace c56 := Bool.eq_false_iff.mpr c56
                                            subst c56
                                            have H1 : (if 0 ≤ x17_3 then (if x17_3 < (l0.length : Int) then (if (rd l0 x17_3) > x15_3 then (salchowlaw28_TrimmedRobust.l1 kj47 l0 x10_2 x14_3 (rd l0 x17_3) false (wrap64 (x17_3 + 1)) t485 t486) else (salchowlaw28_TrimmedRobust.l1 kj47 l0 x10_2 x14_3 x15_3 false (wrap64 (x17_3 + 1)) t485 t486)) else (none)) else (none)) = some r := by rw [if_neg (show ¬ (false = true) by decide)] at H; exact H
                                            clear H
                                            have H := H1
                                            clear H1
                                            by_cases c59 : 0 ≤ x17_3
                                            · rw [if_pos c59] at H
                                              have c59b0 : decide (0 ≤ x17_3) = true := decide_eq_true c59
                                              clear c59
                                              by_cases c60 : x17_3 < (l0.length : Int)
                                              · rw [if_pos c60] at H
                                                have c60b0 : decide (x17_3 < (l0.length : Int)) = true := decide_eq_true c60
                                                clear c60
                                                by_cases c61 : (rd l0 x17_3) > x15_3
                                                · rw [if_pos c61] at H
                                                  have c61b0 : decide (x15_3 < (rd l0 x17_3)) = true := decide_eq_true c61
                                                  clear c61
                                                  have H' := Aside0.mk H
                                                  clear H
                                                  have p496 : 0 ≤ (x17_3 : Int) := of_decide_eq_true (by first | (with_reducible assumption) | assumption)
                                                  have q496 : x17_3 < (l0.length : Int) := of_decide_eq_true (by first | (with_reducible assumption) | assumption)
                                                  obtain ⟨ad496, e496, hx496_0⟩ := Kd.at_int HR0.out x17_3 p496 q496
                                                  cases e496
                                                  (try replace hx496_0 := (HB.out.cell (World.block_lt_of_cell? w _ hx496_0)).trans hx496_0)
                                                  replace p496 := eq_true p496
                                                  replace q496 := eq_true q496
                                                  have p497 : 0 ≤ (x17_3 : Int) := of_decide_eq_true (by first | (with_reducible assumption) | assumption)
                                                  have q497 : x17_3 < (l0.length : Int) := of_decide_eq_true (by first | (with_reducible assumption) | assumption)
                                                  obtain ⟨ad497, e497, hx497_0⟩ := Kd.at_int HR0.out x17_3 p497 q497
                                                  obtain rfl : ad496 = ad497 := (by injection e497)
                                                  (try replace hx497_0 := (HB.out.cell (World.block_lt_of_cell? w _ hx497_0)).trans hx497_0)
                                                  replace p497 := eq_true p497
                                                  replace q497 := eq_true q497
                                                  go_wp2
                                                  go_roundg kj47
                                                  case measure => have := HJ6.out; have := HK2.out; have := HK3.out; have := HJ47.out; omega
                                                  case rel => exact ⟨(x14_3), (rd l0 x17_3), (false), (wrap64 (x17_3 + 1)), (by first | rfl | (simp; done) | (simp [*]; done)), (by first | rfl | (simp; done) | (simp [*]; done)), (by first | rfl | (simp; done) | (simp [*]; done)), (by first | rfl | (simp; done) | (simp [*]; done)), H', ⟨by have := HJ6.out; have := HK2.out; have := HK3.out; have := HJ47.out; omega⟩, ⟨by (with_reducible repeat (first | apply Kd.R_alloc | apply Kd.R_drewN | apply Kd.R_drew)); exact HO_10.out⟩, ⟨by (with_reducible repeat (first | refine blk_drewN ?_ _ | refine blk_drew ?_ | refine blk_alloc ?_ _)); exact BK488.out⟩, ⟨by repeat (first | (with_reducible first | exact HB.out | apply below_alloc | apply pw_below_drewN | apply below_drew1 | refine below_set ?_ GE488.out) | exact HB.out)⟩⟩
                                                · rw [if_neg c61] at H
                                                  have c61b0 : decide (x15_3 < (rd l0 x17_3)) = false := decide_eq_false c61
                                                  clear c61
                                                  have H' := Aside0.mk H
                                                  clear H
                                                  have p496 : 0 ≤ (x17_3 : Int) := of_decide_eq_true (by first | (with_reducible assumption) | assumption)
                                                  have q496 : x17_3 < (l0.length : Int) := of_decide_eq_true (by first | (with_reducible assumption) | assumption)
                                                  obtain ⟨ad496, e496, hx496_0⟩ := Kd.at_int HR0.out x17_3 p496 q496
                                                  cases e496
                                                  (try replace hx496_0 := (HB.out.cell (World.block_lt_of_cell? w _ hx496_0)).trans hx496_0)
                                                  replace p496 := eq_true p496
                                                  replace q496 := eq_true q496
                                                  go_wp2
                                                  go_roundg kj47
                                                  case measure => have := HJ6.out; have := HK2.out; have := HK3.out; have := HJ47.out; omega
                                                  case rel => exact ⟨(x14_3), (x15_3), (false), (wrap64 (x17_3 + 1)), (by first | rfl | (simp; done) | (simp [*]; done)), (by first | rfl | (simp; done) | (simp [*]; done)), (by first | rfl | (simp; done) | (simp [*]; done)), (by first | rfl | (simp; done) | (simp [*]; done)), H', ⟨by have := HJ6.out; have := HK2.out; have := HK3.out; have := HJ47.out; omega⟩, ⟨by (with_reducible repeat (first | apply Kd.R_alloc | apply Kd.R_drewN | apply Kd.R_drew)); exact HO_10.out⟩, ⟨by (with_reducible repeat (first | refine blk_drewN ?_ _ | refine blk_drew ?_ | refine blk_alloc ?_ _)); exact BK488.out⟩, ⟨by repeat (first | (with_reducible first | exact HB.out | apply below_alloc | apply pw_below_drewN | apply below_drew1 | refine below_set ?_ GE488.out) | exact HB.out)⟩⟩
                                              · rw [if_neg c60] at H
                                                exact absurd H (by simp)
                                            · rw [if_neg c59] at H
                                              exact absurd H (by simp)
                                · rw [if_neg c44] at H
                                  exact absurd H (by simp)
                              · rw [if_neg c43] at H
                                exact absurd H (by simp)
                            · rw [if_neg c42] at H
                              have c42b0 : decide (x17_3 < (l0.length : Int)) = false := decide_eq_false c42
                              clear c42
                              by_cases c62 : x16_3 = true
                              · subst c62
                                have H1 : (some false) = some r := by rw [if_pos rfl] at H; exact H
                                clear H
                                have H := H1
                                clear H1
                                obtain rfl := Option.some.inj H
                                try go_wp2
                                have n0_ := Aside0.mk (Kd.R_drew HO_10.out)
                                have n1_ := Aside0.mk (blk_drew BK488.out)
                                have n2_ := Aside0.mk (below_drew1 HB.out)
                                clear HO_10
                                clear BK488
                                clear HB
                                have HO_10 := n0_
                                have BK488 := n1_
                                have HB := n2_
                                clear n0_ n1_ n2_
                                refine start_ (n := 17) (S := fun w' => True) (ds := []) #[false, false, false, false, false, false, false, false, false, false, false, false, false, false, false, false, false] (by kernel_rfl) rfl rfl trivial (fun hHeld => ?_); refine with_tabW salchowlaw28_TrimmedRobust.tab28 salchowlaw28_TrimmedRobust.bits28 (fun HT_ HW_ => ?_)
                                generalize wr.drew = w63 at HO_10 BK488 HB hHeld ⊢
                                refine pure_ (i := 0) (N := some 127) (v := ?_) (a' := ?_) #[true, false, false, false, false, false, false, false, false, false, false, false, false, false, false, false, false] rfl rfl (any_of HT_.out (by kernel_rfl)) (fun _ _ _ h => h) (Or.inl ⟨by rfl, ?_⟩) ?_ ?_
                                rotate_left
                                · intro w'
                                  go_simp
                                  with_reducible rfl
                                rotate_left
                                · simp only [Act.put, List.setIfInBounds_toArray, List.set_cons_zero, List.set_cons_succ, i64_w, i32_w]
                                  rfl
                                refine pure_ (i := 1) (N := some 128) (v := ?_) (a' := ?_) #[true, true, false, false, false, false, false, false, false, false, false, false, false, false, false, false, false] rfl rfl (any_of HT_.out (by kernel_rfl)) (fun _ _ _ h => h) (Or.inl ⟨by rfl, ?_⟩) ?_ ?_
                                rotate_left
                                · intro w'
                                  go_simp
                                  with_reducible rfl
                                rotate_left
                                · simp only [Act.put, List.setIfInBounds_toArray, List.set_cons_zero, List.set_cons_succ, i64_w, i32_w]
                                  rfl
                                refine pure_ (i := 2) (N := some 129) (v := ?_) (a' := ?_) #[true, true, true, false, false, false, false, false, false, false, false, false, false, false, false, false, false] rfl rfl (any_of HT_.out (by kernel_rfl)) (fun _ _ _ h => h) (Or.inl ⟨by rfl, ?_⟩) ?_ ?_
                                rotate_left
                                · intro w'
                                  go_simp
                                  with_reducible rfl
                                rotate_left
                                · simp only [Act.put, List.setIfInBounds_toArray, List.set_cons_zero, List.set_cons_succ, i64_w, i32_w]
                                  rfl
                                refine pure_ (i := 3) (N := some 130) (v := undef) (a' := ?_) #[true, true, true, true, false, false, false, false, false, false, false, false, false, false, false, false, false] rfl rfl (any_of HT_.out (by kernel_rfl)) (fun _ _ _ h => h) (Or.inr ⟨by rfl, rfl⟩) ?_ ?_
                                rotate_left
                                · simp only [Act.put, List.setIfInBounds_toArray, List.set_cons_zero, List.set_cons_succ, i64_w, i32_w]
                                  rfl
                                refine pure_ (i := 4) (N := some 131) (v := undef) (a' := ?_) #[true, true, true, true, true, false, false, false, false, false, false, false, false, false, false, false, false] rfl rfl (any_of HT_.out (by kernel_rfl)) (fun _ _ _ h => h) (Or.inr ⟨by rfl, rfl⟩) ?_ ?_
                                rotate_left
                                · simp only [Act.put, List.setIfInBounds_toArray, List.set_cons_zero, List.set_cons_succ, i64_w, i32_w]
                                  rfl
                                refine pure_ (i := 5) (N := some 132) (v := undef) (a' := ?_) #[true, true, true, true, true, true, false, false, false, false, false, false, false, false, false, false, false] rfl rfl (any_of HT_.out (by kernel_rfl)) (fun _ _ _ h => h) (Or.inr ⟨by rfl, rfl⟩) ?_ ?_
                                rotate_left
                                · simp only [Act.put, List.setIfInBounds_toArray, List.set_cons_zero, List.set_cons_succ, i64_w, i32_w]
                                  rfl
                                refine pure_ (i := 6) (N := some 133) (v := undef) (a' := ?_) #[true, true, true, true, true, true, true, false, false, false, false, false, false, false, false, false, false] rfl rfl (any_of HT_.out (by kernel_rfl)) (fun _ _ _ h => h) (Or.inr ⟨by rfl, rfl⟩) ?_ ?_
                                rotate_left
                                · simp only [Act.put, List.setIfInBounds_toArray, List.set_cons_zero, List.set_cons_succ, i64_w, i32_w]
                                  rfl
                                refine pure_ (i := 7) (N := some 134) (v := undef) (a' := ?_) #[true, true, true, true, true, true, true, true, false, false, false, false, false, false, false, false, false] rfl rfl (any_of HT_.out (by kernel_rfl)) (fun _ _ _ h => h) (Or.inr ⟨by rfl, rfl⟩) ?_ ?_
                                rotate_left
                                · simp only [Act.put, List.setIfInBounds_toArray, List.set_cons_zero, List.set_cons_succ, i64_w, i32_w]
                                  rfl
                                refine pure_ (i := 8) (N := some 135) (v := ?_) (a' := ?_) #[true, true, true, true, true, true, true, true, true, false, false, false, false, false, false, false, false] rfl rfl (any_of HT_.out (by kernel_rfl)) (fun _ _ _ h => h) (Or.inl ⟨by rfl, ?_⟩) ?_ ?_
                                rotate_left
                                · intro w'
                                  go_simp
                                  with_reducible rfl
                                rotate_left
                                · simp only [Act.put, List.setIfInBounds_toArray, List.set_cons_zero, List.set_cons_succ, i64_w, i32_w]
                                  rfl
                                refine pure_ (i := 9) (N := some 136) (v := ?_) (a' := ?_) #[true, true, true, true, true, true, true, true, true, true, false, false, false, false, false, false, false] rfl rfl (any_of HT_.out (by kernel_rfl)) (fun _ _ _ h => h) (Or.inl ⟨by rfl, ?_⟩) ?_ ?_
                                rotate_left
                                · intro w'
                                  go_simp
                                  with_reducible rfl
                                rotate_left
                                · simp only [Act.put, List.setIfInBounds_toArray, List.set_cons_zero, List.set_cons_succ, i64_w, i32_w]
                                  rfl
                                refine pure_ (i := 10) (N := some 137) (v := undef) (a' := ?_) #[true, true, true, true, true, true, true, true, true, true, true, false, false, false, false, false, false] rfl rfl (any_of HT_.out (by kernel_rfl)) (fun _ _ _ h => h) (Or.inr ⟨by rfl, rfl⟩) ?_ ?_
                                rotate_left
                                · simp only [Act.put, List.setIfInBounds_toArray, List.set_cons_zero, List.set_cons_succ, i64_w, i32_w]
                                  rfl
                                refine pure_ (i := 11) (N := some 138) (v := undef) (a' := ?_) #[true, true, true, true, true, true, true, true, true, true, true, true, false, false, false, false, false] rfl rfl (any_of HT_.out (by kernel_rfl)) (fun _ _ _ h => h) (Or.inr ⟨by rfl, rfl⟩) ?_ ?_
                                rotate_left
                                · simp only [Act.put, List.setIfInBounds_toArray, List.set_cons_zero, List.set_cons_succ, i64_w, i32_w]
                                  rfl
                                refine pure_ (i := 12) (N := some 139) (v := undef) (a' := ?_) #[true, true, true, true, true, true, true, true, true, true, true, true, true, false, false, false, false] rfl rfl (any_of HT_.out (by kernel_rfl)) (fun _ _ _ h => h) (Or.inr ⟨by rfl, rfl⟩) ?_ ?_
                                rotate_left
                                · simp only [Act.put, List.setIfInBounds_toArray, List.set_cons_zero, List.set_cons_succ, i64_w, i32_w]
                                  rfl
                                refine pure_ (i := 13) (N := some 140) (v := undef) (a' := ?_) #[true, true, true, true, true, true, true, true, true, true, true, true, true, true, false, false, false] rfl rfl (any_of HT_.out (by kernel_rfl)) (fun _ _ _ h => h) (Or.inr ⟨by rfl, rfl⟩) ?_ ?_
                                rotate_left
                                · simp only [Act.put, List.setIfInBounds_toArray, List.set_cons_zero, List.set_cons_succ, i64_w, i32_w]
                                  rfl
                                refine pure_ (i := 14) (N := some 141) (v := undef) (a' := ?_) #[true, true, true, true, true, true, true, true, true, true, true, true, true, true, true, false, false] rfl rfl (any_of HT_.out (by kernel_rfl)) (fun _ _ _ h => h) (Or.inr ⟨by rfl, rfl⟩) ?_ ?_
                                rotate_left
                                · simp only [Act.put, List.setIfInBounds_toArray, List.set_cons_zero, List.set_cons_succ, i64_w, i32_w]
                                  rfl
                                refine pure_ (i := 15) (N := some 142) (v := ?_) (a' := ?_) #[true, true, true, true, true, true, true, true, true, true, true, true, true, true, true, true, false] rfl rfl (any_of HT_.out (by kernel_rfl)) (fun _ _ _ h => h) (Or.inl ⟨by rfl, ?_⟩) ?_ ?_
                                rotate_left
                                · intro w'
                                  go_simp
                                  with_reducible rfl
                                rotate_left
                                · simp only [Act.put, List.setIfInBounds_toArray, List.set_cons_zero, List.set_cons_succ, i64_w, i32_w]
                                  rfl
                                refine pure_ (i := 16) (N := some 8) (v := ?_) (a' := ?_) #[true, true, true, true, true, true, true, true, true, true, true, true, true, true, true, true, true] rfl rfl (any_of HT_.out (by kernel_rfl)) (fun _ _ _ h => h) (Or.inl ⟨by rfl, ?_⟩) ?_ ?_
                                rotate_left
                                · intro w'
                                  go_simp
                                  with_reducible rfl
                                rotate_left
                                · simp only [Act.put, List.setIfInBounds_toArray, List.set_cons_zero, List.set_cons_succ, i64_w, i32_w]
                                  rfl
                                refine done_ (done_of HT_.out (by kernel_rfl)) ?_
                                try go_wp2
                                go_ret
                                exact ⟨by first | rfl | (simp [errW_none, errW_some] <;> rfl) | (simp [*, errW_none, errW_some] <;> rfl), by repeat (first | (with_reducible first | exact HB.out | apply below_alloc | apply pw_below_drewN | apply below_drew1 | refine below_set ?_ GE488.out) | exact HB.out)⟩
                              · replace c62 := Bool.eq_false_iff.mpr c62
                                subst c62
                                have H1 : ((fraction_Milli.f k3 x14_3).bind fun bt498 => ((fraction_Cmp.f k3 bt498.1 bt498.2 t485 t486).bind fun t500 => (if t500 ≤ 0 then ((fraction_Milli.f k3 x15_3).bind fun bt501 => ((fraction_Cmp.f k3 t485 t486 bt501.1 bt501.2).bind fun t503 => (some (decide (t503 ≤ 0))))) else (some false)))) = some r := by rw [if_neg (show ¬ (false = true) by decide)] at H; exact H
                                clear H
                                have H := H1
                                clear H1
                                replace H := Option.bind_eq_some_iff.mp H
                                obtain ⟨⟨t498, t499⟩, A640, H⟩ := H
                                replace H : ((fraction_Cmp.f k3 t498 t499 t485 t486).bind fun t500 => (if t500 ≤ 0 then ((fraction_Milli.f k3 x15_3).bind fun bt501 => ((fraction_Cmp.f k3 t485 t486 bt501.1 bt501.2).bind fun t503 => (some (decide (t503 ≤ 0))))) else (some false))) = some r := H
                                have A64 := Aside0.mk A640
                                clear A640
                                replace H := Option.bind_eq_some_iff.mp H
                                obtain ⟨t500, A650, H⟩ := H
                                replace H : (if t500 ≤ 0 then ((fraction_Milli.f k3 x15_3).bind fun bt501 => ((fraction_Cmp.f k3 t485 t486 bt501.1 bt501.2).bind fun t503 => (some (decide (t503 ≤ 0))))) else (some false)) = some r := H
                                have A65 := Aside0.mk A650
                                clear A650
                                by_cases c66 : t500 ≤ 0
                                · rw [if_pos c66] at H
                                  have c66b0 : decide (t500 ≤ 0) = true := decide_eq_true c66
                                  clear c66
                                  replace H := Option.bind_eq_some_iff.mp H
                                  obtain ⟨⟨t501, t502⟩, A670, H⟩ := H
                                  replace H : ((fraction_Cmp.f k3 t485 t486 t501 t502).bind fun t503 => (some (decide (t503 ≤ 0)))) = some r := H
                                  have A67 := Aside0.mk A670
                                  clear A670
                                  replace H := Option.bind_eq_some_iff.mp H
                                  obtain ⟨t503, A680, H⟩ := H
                                  replace H : (some (decide (t503 ≤ 0))) = some r := H
                                  have A68 := Aside0.mk A680
                                  clear A680
                                  obtain rfl := Option.some.inj H
                                  try go_wp2
                                  have n0_ := Aside0.mk (Kd.R_drew HO_10.out)
                                  have n1_ := Aside0.mk (blk_drew BK488.out)
                                  have n2_ := Aside0.mk (below_drew1 HB.out)
                                  clear HO_10
                                  clear BK488
                                  clear HB
                                  have HO_10 := n0_
                                  have BK488 := n1_
                                  have HB := n2_
                                  clear n0_ n1_ n2_
                                  refine start_ (n := 17) (S := fun w' => w'.cell? ⟨gb488, 0, none⟩ = some (.int .i64 t485) ∧ w'.cell? ⟨gb488, 1, none⟩ = some (.int .i64 t486)) (ds := []) #[false, false, false, false, false, false, false, false, false, false, false, false, false, false, false, false, false] (by kernel_rfl) rfl rfl ⟨(blk_cell BK488.out 0).trans rfl, (blk_cell BK488.out 1).trans rfl⟩ (fun hHeld => ?_); refine with_tabW salchowlaw28_TrimmedRobust.tab28 salchowlaw28_TrimmedRobust.bits28 (fun HT_ HW_ => ?_)
                                  generalize wr.drew = w69 at HO_10 BK488 HB hHeld ⊢
                                  refine pure_ (i := 0) (N := some 127) (v := ?_) (a' := ?_) #[true, false, false, false, false, false, false, false, false, false, false, false, false, false, false, false, false] rfl rfl (any_of HT_.out (by kernel_rfl)) (fun _ _ _ h => h) (Or.inl ⟨by rfl, ?_⟩) ?_ ?_
                                  rotate_left
                                  · intro w'
                                    go_simp
                                    with_reducible rfl
                                  rotate_left
                                  · simp only [Act.put, List.setIfInBounds_toArray, List.set_cons_zero, List.set_cons_succ, i64_w, i32_w]
                                    rfl
                                  refine pure_ (i := 1) (N := some 128) (v := ?_) (a' := ?_) #[true, true, false, false, false, false, false, false, false, false, false, false, false, false, false, false, false] rfl rfl (any_of HT_.out (by kernel_rfl)) (fun _ _ _ h => h) (Or.inl ⟨by rfl, ?_⟩) ?_ ?_
                                  rotate_left
                                  · intro w'
                                    go_simp
                                    with_reducible rfl
                                  rotate_left
                                  · simp only [Act.put, List.setIfInBounds_toArray, List.set_cons_zero, List.set_cons_succ, i64_w, i32_w]
                                    rfl
                                  refine pure_ (i := 2) (N := some 129) (v := ?_) (a' := ?_) #[true, true, true, false, false, false, false, false, false, false, false, false, false, false, false, false, false] rfl rfl (any_of HT_.out (by kernel_rfl)) (fun _ _ _ h => h) (Or.inl ⟨by rfl, ?_⟩) ?_ ?_
                                  rotate_left
                                  · intro w'
                                    go_simp
                                    with_reducible rfl
                                  rotate_left
                                  · simp only [Act.put, List.setIfInBounds_toArray, List.set_cons_zero, List.set_cons_succ, i64_w, i32_w]
                                    rfl
                                  refine pure_ (i := 3) (N := some 130) (v := ?_) (a' := ?_) #[true, true, true, true, false, false, false, false, false, false, false, false, false, false, false, false, false] rfl rfl (any_of HT_.out (by kernel_rfl)) (fun _ _ _ h => h) (Or.inl ⟨by rfl, ?_⟩) ?_ ?_
                                  rotate_left
                                  · intro w'
                                    go_simp
                                    with_reducible rfl
                                  rotate_left
                                  · simp only [Act.put, List.setIfInBounds_toArray, List.set_cons_zero, List.set_cons_succ, i64_w, i32_w]
                                    rfl
                                  refine take_ (i := 5) (N := some 132) (v := ?_) (a' := ?_) #[true, true, true, true, false, true, false, false, false, false, false, false, false, false, false, false, false] rfl rfl (take_ofW HT_.out HW_.out (by kernel_rfl)) (fun _ _ _ h => h) (Or.inl ⟨by rfl, ?_⟩) hHeld ?_ ?_
                                  rotate_left
                                  · rintro w' ⟨s0, s1⟩
                                    go_simp
                                    with_reducible rfl
                                  rotate_left
                                  · simp only [Act.put, List.setIfInBounds_toArray, List.set_cons_zero, List.set_cons_succ, i64_w, i32_w]
                                    rfl
                                  refine one_ (i := 4) (N := some 131) #[true, true, true, true, true, true, false, false, false, false, false, false, false, false, false, false, false] rfl rfl (one_of HT_.out (by kernel_rfl)) (by decide) (fun K hK => ?_)
                                  refine goes_ Try.func25 (by kernel_rfl) rfl #[.int .i64 x14_3] (by rfl) rfl rfl (by (try simp only [List.map_toArray, List.map_cons, List.map_nil]); first | done | rfl | (simp only [List.length_drop, List.length_take]; rfl)) ?_
                                  with_reducible refine (fraction_Milli.calls k3 x14_3 t498 t499 _ A64.out).mono ?_
                                  rintro e w70 ⟨rfl, hb⟩
                                  refine ⟨_, rfl, ?_⟩
                                  have n0_ := Aside0.mk (Kd.R_below (by (with_reducible repeat (first | apply Kd.R_alloc | apply Kd.R_drewN | apply Kd.R_drew)); exact HO_10.out) hb)
                                  have n1_ := Aside0.mk (blk_below (g := gb488) (o := .cells #[.int .i64 t485, .int .i64 t486] 31 (0, 0)) (by (with_reducible repeat (first | refine blk_drewN ?_ _ | refine blk_drew ?_ | refine blk_alloc ?_ _)); exact BK488.out) hb)
                                  have n2_ := Aside0.mk (below_step (by repeat (first | (with_reducible first | exact HB.out | apply below_alloc | apply pw_below_drewN | apply below_drew1 | refine below_set ?_ GE488.out) | exact HB.out)) hb)
                                  clear HO_10
                                  clear BK488
                                  clear HB
                                  have HO_10 := n0_
                                  have BK488 := n1_
                                  have HB := n2_
                                  clear n0_ n1_ n2_
                                  (try clear hb)
                                  (try clear hb2)
                                  (try clear hk)
                                  (try clear hi)
                                  refine hK.out _ _ ⟨(blk_cell BK488.out 0).trans rfl, (blk_cell BK488.out 1).trans rfl⟩ (fun hHeld => ?_)
                                  clear hK K
                                  refine norm_ (a' := ?_) ?_ ?_
                                  rotate_left
                                  · show Act.put _ (some 131) _ = _
                                    simp only [Act.put, List.setIfInBounds_toArray, List.set_cons_zero, List.set_cons_succ, i64_w, i32_w]
                                    rfl
                                  refine one_ (i := 6) (N := some 133) #[true, true, true, true, true, true, true, false, false, false, false, false, false, false, false, false, false] rfl rfl (one_of HT_.out (by kernel_rfl)) (by decide) (fun K hK => ?_)
                                  refine goes_ Try.func24 (by kernel_rfl) rfl #[.agg #[.int .i64 t498, .int .i64 t499], .agg #[.int .i64 t485, .int .i64 t486]] (by rfl) rfl rfl (by (try simp only [List.map_toArray, List.map_cons, List.map_nil]); first | done | rfl | (simp only [List.length_drop, List.length_take]; rfl)) ?_
                                  with_reducible refine (fraction_Cmp.calls k3 t498 t499 t485 t486 t500 _ A65.out).mono ?_
                                  rintro e w71 ⟨rfl, hb⟩
                                  refine ⟨_, rfl, ?_⟩
                                  have n0_ := Aside0.mk (Kd.R_below (by (with_reducible repeat (first | apply Kd.R_alloc | apply Kd.R_drewN | apply Kd.R_drew)); exact HO_10.out) hb)
                                  have n1_ := Aside0.mk (blk_below (g := gb488) (o := .cells #[.int .i64 t485, .int .i64 t486] 31 (0, 0)) (by (with_reducible repeat (first | refine blk_drewN ?_ _ | refine blk_drew ?_ | refine blk_alloc ?_ _)); exact BK488.out) hb)
                                  have n2_ := Aside0.mk (below_step (by repeat (first | (with_reducible first | exact HB.out | apply below_alloc | apply pw_below_drewN | apply below_drew1 | refine below_set ?_ GE488.out) | exact HB.out)) hb)
                                  clear HO_10
                                  clear BK488
                                  clear HB
                                  have HO_10 := n0_
                                  have BK488 := n1_
                                  have HB := n2_
                                  clear n0_ n1_ n2_
                                  (try clear hb)
                                  (try clear hb2)
                                  (try clear hk)
                                  (try clear hi)
                                  refine hK.out _ _ ⟨(blk_cell BK488.out 0).trans rfl, (blk_cell BK488.out 1).trans rfl⟩ (fun hHeld => ?_)
                                  clear hK K
                                  refine norm_ (a' := ?_) ?_ ?_
                                  rotate_left
                                  · show Act.put _ (some 133) _ = _
                                    simp only [Act.put, List.setIfInBounds_toArray, List.set_cons_zero, List.set_cons_succ, i64_w, i32_w]
                                    rfl
                                  refine pure_ (i := 7) (N := some 134) (v := ?_) (a' := ?_) #[true, true, true, true, true, true, true, true, false, false, false, false, false, false, false, false, false] rfl rfl (any_of HT_.out (by kernel_rfl)) (fun _ _ _ h => h) (Or.inl ⟨by rfl, ?_⟩) ?_ ?_
                                  rotate_left
                                  · intro w'
                                    go_simp
                                    with_reducible rfl
                                  rotate_left
                                  · simp only [Act.put, List.setIfInBounds_toArray, List.set_cons_zero, List.set_cons_succ, i64_w, i32_w]
                                    rfl
                                  refine pure_ (i := 8) (N := some 135) (v := ?_) (a' := ?_) #[true, true, true, true, true, true, true, true, true, false, false, false, false, false, false, false, false] rfl rfl (any_of HT_.out (by kernel_rfl)) (fun _ _ _ h => h) (Or.inl ⟨by rfl, ?_⟩) ?_ ?_
                                  rotate_left
                                  · intro w'
                                    go_simp
                                    with_reducible rfl
                                  rotate_left
                                  · simp only [Act.put, List.setIfInBounds_toArray, List.set_cons_zero, List.set_cons_succ, i64_w, i32_w]
                                    rfl
                                  refine pure_ (i := 9) (N := some 136) (v := ?_) (a' := ?_) #[true, true, true, true, true, true, true, true, true, true, false, false, false, false, false, false, false] rfl rfl (any_of HT_.out (by kernel_rfl)) (fun _ _ _ h => h) (Or.inl ⟨by rfl, ?_⟩) ?_ ?_
                                  rotate_left
                                  · intro w'
                                    go_simp
                                    with_reducible rfl
                                  rotate_left
                                  · simp only [Act.put, List.setIfInBounds_toArray, List.set_cons_zero, List.set_cons_succ, i64_w, i32_w]
                                    rfl
                                  refine pure_ (i := 11) (N := some 138) (v := ?_) (a' := ?_) #[true, true, true, true, true, true, true, true, true, true, false, true, false, false, false, false, false] rfl rfl (any_of HT_.out (by kernel_rfl)) (fun _ _ _ h => h) (Or.inl ⟨by rfl, ?_⟩) ?_ ?_
                                  rotate_left
                                  · intro w'
                                    go_simp
                                    with_reducible rfl
                                  rotate_left
                                  · simp only [Act.put, List.setIfInBounds_toArray, List.set_cons_zero, List.set_cons_succ, i64_w, i32_w]
                                    rfl
                                  refine take_ (i := 10) (N := some 137) (v := ?_) (a' := ?_) #[true, true, true, true, true, true, true, true, true, true, true, true, false, false, false, false, false] rfl rfl (take_ofW HT_.out HW_.out (by kernel_rfl)) (fun _ _ _ h => h) (Or.inl ⟨by rfl, ?_⟩) hHeld ?_ ?_
                                  rotate_left
                                  · rintro w' ⟨s0, s1⟩
                                    go_simp
                                    with_reducible rfl
                                  rotate_left
                                  · simp only [Act.put, List.setIfInBounds_toArray, List.set_cons_zero, List.set_cons_succ, i64_w, i32_w]
                                    rfl
                                  refine one_ (i := 12) (N := some 139) #[true, true, true, true, true, true, true, true, true, true, true, true, true, false, false, false, false] rfl rfl (one_of HT_.out (by kernel_rfl)) (by decide) (fun K hK => ?_)
                                  refine goes_ Try.func25 (by kernel_rfl) rfl #[.int .i64 x15_3] (by rfl) rfl rfl (by (try simp only [List.map_toArray, List.map_cons, List.map_nil]); first | done | rfl | (simp only [List.length_drop, List.length_take]; rfl)) ?_
                                  with_reducible refine (fraction_Milli.calls k3 x15_3 t501 t502 _ A67.out).mono ?_
                                  rintro e w72 ⟨rfl, hb⟩
                                  refine ⟨_, rfl, ?_⟩
                                  have n0_ := Aside0.mk (Kd.R_below (by (with_reducible repeat (first | apply Kd.R_alloc | apply Kd.R_drewN | apply Kd.R_drew)); exact HO_10.out) hb)
                                  have n1_ := Aside0.mk (blk_below (g := gb488) (o := .cells #[.int .i64 t485, .int .i64 t486] 31 (0, 0)) (by (with_reducible repeat (first | refine blk_drewN ?_ _ | refine blk_drew ?_ | refine blk_alloc ?_ _)); exact BK488.out) hb)
                                  have n2_ := Aside0.mk (below_step (by repeat (first | (with_reducible first | exact HB.out | apply below_alloc | apply pw_below_drewN | apply below_drew1 | refine below_set ?_ GE488.out) | exact HB.out)) hb)
                                  clear HO_10
                                  clear BK488
                                  clear HB
                                  have HO_10 := n0_
                                  have BK488 := n1_
                                  have HB := n2_
                                  clear n0_ n1_ n2_
                                  (try clear hb)
                                  (try clear hb2)
                                  (try clear hk)
                                  (try clear hi)
                                  refine hK.out _ _ ⟨(blk_cell BK488.out 0).trans rfl, (blk_cell BK488.out 1).trans rfl⟩ (fun hHeld => ?_)
                                  clear hK K
                                  refine norm_ (a' := ?_) ?_ ?_
                                  rotate_left
                                  · show Act.put _ (some 139) _ = _
                                    simp only [Act.put, List.setIfInBounds_toArray, List.set_cons_zero, List.set_cons_succ, i64_w, i32_w]
                                    rfl
                                  refine one_ (i := 13) (N := some 140) #[true, true, true, true, true, true, true, true, true, true, true, true, true, true, false, false, false] rfl rfl (one_of HT_.out (by kernel_rfl)) (by decide) (fun K hK => ?_)
                                  refine goes_ Try.func24 (by kernel_rfl) rfl #[.agg #[.int .i64 t485, .int .i64 t486], .agg #[.int .i64 t501, .int .i64 t502]] (by rfl) rfl rfl (by (try simp only [List.map_toArray, List.map_cons, List.map_nil]); first | done | rfl | (simp only [List.length_drop, List.length_take]; rfl)) ?_
                                  with_reducible refine (fraction_Cmp.calls k3 t485 t486 t501 t502 t503 _ A68.out).mono ?_
                                  rintro e w73 ⟨rfl, hb⟩
                                  refine ⟨_, rfl, ?_⟩
                                  have n0_ := Aside0.mk (Kd.R_below (by (with_reducible repeat (first | apply Kd.R_alloc | apply Kd.R_drewN | apply Kd.R_drew)); exact HO_10.out) hb)
                                  have n1_ := Aside0.mk (blk_below (g := gb488) (o := .cells #[.int .i64 t485, .int .i64 t486] 31 (0, 0)) (by (with_reducible repeat (first | refine blk_drewN ?_ _ | refine blk_drew ?_ | refine blk_alloc ?_ _)); exact BK488.out) hb)
                                  have n2_ := Aside0.mk (below_step (by repeat (first | (with_reducible first | exact HB.out | apply below_alloc | apply pw_below_drewN | apply below_drew1 | refine below_set ?_ GE488.out) | exact HB.out)) hb)
                                  clear HO_10
                                  clear BK488
                                  clear HB
                                  have HO_10 := n0_
                                  have BK488 := n1_
                                  have HB := n2_
                                  clear n0_ n1_ n2_
                                  (try clear hb)
                                  (try clear hb2)
                                  (try clear hk)
                                  (try clear hi)
                                  refine hK.out _ _ ⟨(blk_cell BK488.out 0).trans rfl, (blk_cell BK488.out 1).trans rfl⟩ (fun hHeld => ?_)
                                  clear hK K
                                  refine norm_ (a' := ?_) ?_ ?_
                                  rotate_left
                                  · show Act.put _ (some 140) _ = _
                                    simp only [Act.put, List.setIfInBounds_toArray, List.set_cons_zero, List.set_cons_succ, i64_w, i32_w]
                                    rfl
                                  refine pure_ (i := 14) (N := some 141) (v := ?_) (a' := ?_) #[true, true, true, true, true, true, true, true, true, true, true, true, true, true, true, false, false] rfl rfl (any_of HT_.out (by kernel_rfl)) (fun _ _ _ h => h) (Or.inl ⟨by rfl, ?_⟩) ?_ ?_
                                  rotate_left
                                  · intro w'
                                    go_simp
                                    with_reducible rfl
                                  rotate_left
                                  · simp only [Act.put, List.setIfInBounds_toArray, List.set_cons_zero, List.set_cons_succ, i64_w, i32_w]
                                    rfl
                                  refine pure_ (i := 15) (N := some 142) (v := ?_) (a' := ?_) #[true, true, true, true, true, true, true, true, true, true, true, true, true, true, true, true, false] rfl rfl (any_of HT_.out (by kernel_rfl)) (fun _ _ _ h => h) (Or.inl ⟨by rfl, ?_⟩) ?_ ?_
                                  rotate_left
                                  · intro w'
                                    go_simp
                                    with_reducible rfl
                                  rotate_left
                                  · simp only [Act.put, List.setIfInBounds_toArray, List.set_cons_zero, List.set_cons_succ, i64_w, i32_w]
                                    rfl
                                  refine pure_ (i := 16) (N := some 8) (v := ?_) (a' := ?_) #[true, true, true, true, true, true, true, true, true, true, true, true, true, true, true, true, true] rfl rfl (any_of HT_.out (by kernel_rfl)) (fun _ _ _ h => h) (Or.inl ⟨by rfl, ?_⟩) ?_ ?_
                                  rotate_left
                                  · intro w'
                                    go_simp
                                    with_reducible rfl
                                  rotate_left
                                  · simp only [Act.put, List.setIfInBounds_toArray, List.set_cons_zero, List.set_cons_succ, i64_w, i32_w]
                                    rfl
                                  refine done_ (done_of HT_.out (by kernel_rfl)) ?_
                                  try go_wp2
                                  go_ret
                                  exact ⟨by first | rfl | (simp [errW_none, errW_some] <;> rfl) | (simp [*, errW_none, errW_some] <;> rfl), by repeat (first | (with_reducible first | exact HB.out | apply below_alloc | apply pw_below_drewN | apply below_drew1 | refine below_set ?_ GE488.out) | exact HB.out)⟩
                                · rw [if_neg c66] at H
                                  have c66b0 : decide (t500 ≤ 0) = false := decide_eq_false c66
                                  clear c66
                                  obtain rfl := Option.some.inj H
                                  try go_wp2
                                  have n0_ := Aside0.mk (Kd.R_drew HO_10.out)
                                  have n1_ := Aside0.mk (blk_drew BK488.out)
                                  have n2_ := Aside0.mk (below_drew1 HB.out)
                                  clear HO_10
                                  clear BK488
                                  clear HB
                                  have HO_10 := n0_
                                  have BK488 := n1_
                                  have HB := n2_
                                  clear n0_ n1_ n2_
                                  refine start_ (n := 17) (S := fun w' => w'.cell? ⟨gb488, 0, none⟩ = some (.int .i64 t485) ∧ w'.cell? ⟨gb488, 1, none⟩ = some (.int .i64 t486)) (ds := []) #[false, false, false, false, false, false, false, false, false, false, false, false, false, false, false, false, false] (by kernel_rfl) rfl rfl ⟨(blk_cell BK488.out 0).trans rfl, (blk_cell BK488.out 1).trans rfl⟩ (fun hHeld => ?_); refine with_tabW salchowlaw28_TrimmedRobust.tab28 salchowlaw28_TrimmedRobust.bits28 (fun HT_ HW_ => ?_)
                                  generalize wr.drew = w74 at HO_10 BK488 HB hHeld ⊢
                                  refine pure_ (i := 0) (N := some 127) (v := ?_) (a' := ?_) #[true, false, false, false, false, false, false, false, false, false, false, false, false, false, false, false, false] rfl rfl (any_of HT_.out (by kernel_rfl)) (fun _ _ _ h => h) (Or.inl ⟨by rfl, ?_⟩) ?_ ?_
                                  rotate_left
                                  · intro w'
                                    go_simp
                                    with_reducible rfl
                                  rotate_left
                                  · simp only [Act.put, List.setIfInBounds_toArray, List.set_cons_zero, List.set_cons_succ, i64_w, i32_w]
                                    rfl
                                  refine pure_ (i := 1) (N := some 128) (v := ?_) (a' := ?_) #[true, true, false, false, false, false, false, false, false, false, false, false, false, false, false, false, false] rfl rfl (any_of HT_.out (by kernel_rfl)) (fun _ _ _ h => h) (Or.inl ⟨by rfl, ?_⟩) ?_ ?_
                                  rotate_left
                                  · intro w'
                                    go_simp
                                    with_reducible rfl
                                  rotate_left
                                  · simp only [Act.put, List.setIfInBounds_toArray, List.set_cons_zero, List.set_cons_succ, i64_w, i32_w]
                                    rfl
                                  refine pure_ (i := 2) (N := some 129) (v := ?_) (a' := ?_) #[true, true, true, false, false, false, false, false, false, false, false, false, false, false, false, false, false] rfl rfl (any_of HT_.out (by kernel_rfl)) (fun _ _ _ h => h) (Or.inl ⟨by rfl, ?_⟩) ?_ ?_
                                  rotate_left
                                  · intro w'
                                    go_simp
                                    with_reducible rfl
                                  rotate_left
                                  · simp only [Act.put, List.setIfInBounds_toArray, List.set_cons_zero, List.set_cons_succ, i64_w, i32_w]
                                    rfl
                                  refine pure_ (i := 3) (N := some 130) (v := ?_) (a' := ?_) #[true, true, true, true, false, false, false, false, false, false, false, false, false, false, false, false, false] rfl rfl (any_of HT_.out (by kernel_rfl)) (fun _ _ _ h => h) (Or.inl ⟨by rfl, ?_⟩) ?_ ?_
                                  rotate_left
                                  · intro w'
                                    go_simp
                                    with_reducible rfl
                                  rotate_left
                                  · simp only [Act.put, List.setIfInBounds_toArray, List.set_cons_zero, List.set_cons_succ, i64_w, i32_w]
                                    rfl
                                  refine take_ (i := 5) (N := some 132) (v := ?_) (a' := ?_) #[true, true, true, true, false, true, false, false, false, false, false, false, false, false, false, false, false] rfl rfl (take_ofW HT_.out HW_.out (by kernel_rfl)) (fun _ _ _ h => h) (Or.inl ⟨by rfl, ?_⟩) hHeld ?_ ?_
                                  rotate_left
                                  · rintro w' ⟨s0, s1⟩
                                    go_simp
                                    with_reducible rfl
                                  rotate_left
                                  · simp only [Act.put, List.setIfInBounds_toArray, List.set_cons_zero, List.set_cons_succ, i64_w, i32_w]
                                    rfl
                                  refine one_ (i := 4) (N := some 131) #[true, true, true, true, true, true, false, false, false, false, false, false, false, false, false, false, false] rfl rfl (one_of HT_.out (by kernel_rfl)) (by decide) (fun K hK => ?_)
                                  refine goes_ Try.func25 (by kernel_rfl) rfl #[.int .i64 x14_3] (by rfl) rfl rfl (by (try simp only [List.map_toArray, List.map_cons, List.map_nil]); first | done | rfl | (simp only [List.length_drop, List.length_take]; rfl)) ?_
                                  with_reducible refine (fraction_Milli.calls k3 x14_3 t498 t499 _ A64.out).mono ?_
                                  rintro e w75 ⟨rfl, hb⟩
                                  refine ⟨_, rfl, ?_⟩
                                  have n0_ := Aside0.mk (Kd.R_below (by (with_reducible repeat (first | apply Kd.R_alloc | apply Kd.R_drewN | apply Kd.R_drew)); exact HO_10.out) hb)
                                  have n1_ := Aside0.mk (blk_below (g := gb488) (o := .cells #[.int .i64 t485, .int .i64 t486] 31 (0, 0)) (by (with_reducible repeat (first | refine blk_drewN ?_ _ | refine blk_drew ?_ | refine blk_alloc ?_ _)); exact BK488.out) hb)
                                  have n2_ := Aside0.mk (below_step (by repeat (first | (with_reducible first | exact HB.out | apply below_alloc | apply pw_below_drewN | apply below_drew1 | refine below_set ?_ GE488.out) | exact HB.out)) hb)
                                  clear HO_10
                                  clear BK488
                                  clear HB
                                  have HO_10 := n0_
                                  have BK488 := n1_
                                  have HB := n2_
                                  clear n0_ n1_ n2_
                                  (try clear hb)
                                  (try clear hb2)
                                  (try clear hk)
                                  (try clear hi)
                                  refine hK.out _ _ ⟨(blk_cell BK488.out 0).trans rfl, (blk_cell BK488.out 1).trans rfl⟩ (fun hHeld => ?_)
                                  clear hK K
                                  refine norm_ (a' := ?_) ?_ ?_
                                  rotate_left
                                  · show Act.put _ (some 131) _ = _
                                    simp only [Act.put, List.setIfInBounds_toArray, List.set_cons_zero, List.set_cons_succ, i64_w, i32_w]
                                    rfl
                                  refine one_ (i := 6) (N := some 133) #[true, true, true, true, true, true, true, false, false, false, false, false, false, false, false, false, false] rfl rfl (one_of HT_.out (by kernel_rfl)) (by decide) (fun K hK => ?_)
                                  refine goes_ Try.func24 (by kernel_rfl) rfl #[.agg #[.int .i64 t498, .int .i64 t499], .agg #[.int .i64 t485, .int .i64 t486]] (by rfl) rfl rfl (by (try simp only [List.map_toArray, List.map_cons, List.map_nil]); first | done | rfl | (simp only [List.length_drop, List.length_take]; rfl)) ?_
                                  with_reducible refine (fraction_Cmp.calls k3 t498 t499 t485 t486 t500 _ A65.out).mono ?_
                                  rintro e w76 ⟨rfl, hb⟩
                                  refine ⟨_, rfl, ?_⟩
                                  have n0_ := Aside0.mk (Kd.R_below (by (with_reducible repeat (first | apply Kd.R_alloc | apply Kd.R_drewN | apply Kd.R_drew)); exact HO_10.out) hb)
                                  have n1_ := Aside0.mk (blk_below (g := gb488) (o := .cells #[.int .i64 t485, .int .i64 t486] 31 (0, 0)) (by (with_reducible repeat (first | refine blk_drewN ?_ _ | refine blk_drew ?_ | refine blk_alloc ?_ _)); exact BK488.out) hb)
                                  have n2_ := Aside0.mk (below_step (by repeat (first | (with_reducible first | exact HB.out | apply below_alloc | apply pw_below_drewN | apply below_drew1 | refine below_set ?_ GE488.out) | exact HB.out)) hb)
                                  clear HO_10
                                  clear BK488
                                  clear HB
                                  have HO_10 := n0_
                                  have BK488 := n1_
                                  have HB := n2_
                                  clear n0_ n1_ n2_
                                  (try clear hb)
                                  (try clear hb2)
                                  (try clear hk)
                                  (try clear hi)
                                  refine hK.out _ _ ⟨(blk_cell BK488.out 0).trans rfl, (blk_cell BK488.out 1).trans rfl⟩ (fun hHeld => ?_)
                                  clear hK K
                                  refine norm_ (a' := ?_) ?_ ?_
                                  rotate_left
                                  · show Act.put _ (some 133) _ = _
                                    simp only [Act.put, List.setIfInBounds_toArray, List.set_cons_zero, List.set_cons_succ, i64_w, i32_w]
                                    rfl
                                  refine pure_ (i := 7) (N := some 134) (v := ?_) (a' := ?_) #[true, true, true, true, true, true, true, true, false, false, false, false, false, false, false, false, false] rfl rfl (any_of HT_.out (by kernel_rfl)) (fun _ _ _ h => h) (Or.inl ⟨by rfl, ?_⟩) ?_ ?_
                                  rotate_left
                                  · intro w'
                                    go_simp
                                    with_reducible rfl
                                  rotate_left
                                  · simp only [Act.put, List.setIfInBounds_toArray, List.set_cons_zero, List.set_cons_succ, i64_w, i32_w]
                                    rfl
                                  refine pure_ (i := 8) (N := some 135) (v := ?_) (a' := ?_) #[true, true, true, true, true, true, true, true, true, false, false, false, false, false, false, false, false] rfl rfl (any_of HT_.out (by kernel_rfl)) (fun _ _ _ h => h) (Or.inl ⟨by rfl, ?_⟩) ?_ ?_
                                  rotate_left
                                  · intro w'
                                    go_simp
                                    with_reducible rfl
                                  rotate_left
                                  · simp only [Act.put, List.setIfInBounds_toArray, List.set_cons_zero, List.set_cons_succ, i64_w, i32_w]
                                    rfl
                                  refine pure_ (i := 9) (N := some 136) (v := ?_) (a' := ?_) #[true, true, true, true, true, true, true, true, true, true, false, false, false, false, false, false, false] rfl rfl (any_of HT_.out (by kernel_rfl)) (fun _ _ _ h => h) (Or.inl ⟨by rfl, ?_⟩) ?_ ?_
                                  rotate_left
                                  · intro w'
                                    go_simp
                                    with_reducible rfl
                                  rotate_left
                                  · simp only [Act.put, List.setIfInBounds_toArray, List.set_cons_zero, List.set_cons_succ, i64_w, i32_w]
                                    rfl
                                  refine pure_ (i := 10) (N := some 137) (v := undef) (a' := ?_) #[true, true, true, true, true, true, true, true, true, true, true, false, false, false, false, false, false] rfl rfl (any_of HT_.out (by kernel_rfl)) (fun _ _ _ h => h) (Or.inr ⟨by rfl, rfl⟩) ?_ ?_
                                  rotate_left
                                  · simp only [Act.put, List.setIfInBounds_toArray, List.set_cons_zero, List.set_cons_succ, i64_w, i32_w]
                                    rfl
                                  refine pure_ (i := 11) (N := some 138) (v := undef) (a' := ?_) #[true, true, true, true, true, true, true, true, true, true, true, true, false, false, false, false, false] rfl rfl (any_of HT_.out (by kernel_rfl)) (fun _ _ _ h => h) (Or.inr ⟨by rfl, rfl⟩) ?_ ?_
                                  rotate_left
                                  · simp only [Act.put, List.setIfInBounds_toArray, List.set_cons_zero, List.set_cons_succ, i64_w, i32_w]
                                    rfl
                                  refine pure_ (i := 12) (N := some 139) (v := undef) (a' := ?_) #[true, true, true, true, true, true, true, true, true, true, true, true, true, false, false, false, false] rfl rfl (any_of HT_.out (by kernel_rfl)) (fun _ _ _ h => h) (Or.inr ⟨by rfl, rfl⟩) ?_ ?_
                                  rotate_left
                                  · simp only [Act.put, List.setIfInBounds_toArray, List.set_cons_zero, List.set_cons_succ, i64_w, i32_w]
                                    rfl
                                  refine pure_ (i := 13) (N := some 140) (v := undef) (a' := ?_) #[true, true, true, true, true, true, true, true, true, true, true, true, true, true, false, false, false] rfl rfl (any_of HT_.out (by kernel_rfl)) (fun _ _ _ h => h) (Or.inr ⟨by rfl, rfl⟩) ?_ ?_
                                  rotate_left
                                  · simp only [Act.put, List.setIfInBounds_toArray, List.set_cons_zero, List.set_cons_succ, i64_w, i32_w]
                                    rfl
                                  refine pure_ (i := 14) (N := some 141) (v := undef) (a' := ?_) #[true, true, true, true, true, true, true, true, true, true, true, true, true, true, true, false, false] rfl rfl (any_of HT_.out (by kernel_rfl)) (fun _ _ _ h => h) (Or.inr ⟨by rfl, rfl⟩) ?_ ?_
                                  rotate_left
                                  · simp only [Act.put, List.setIfInBounds_toArray, List.set_cons_zero, List.set_cons_succ, i64_w, i32_w]
                                    rfl
                                  refine pure_ (i := 15) (N := some 142) (v := ?_) (a' := ?_) #[true, true, true, true, true, true, true, true, true, true, true, true, true, true, true, true, false] rfl rfl (any_of HT_.out (by kernel_rfl)) (fun _ _ _ h => h) (Or.inl ⟨by rfl, ?_⟩) ?_ ?_
                                  rotate_left
                                  · intro w'
                                    go_simp
                                    with_reducible rfl
                                  rotate_left
                                  · simp only [Act.put, List.setIfInBounds_toArray, List.set_cons_zero, List.set_cons_succ, i64_w, i32_w]
                                    rfl
                                  refine pure_ (i := 16) (N := some 8) (v := ?_) (a' := ?_) #[true, true, true, true, true, true, true, true, true, true, true, true, true, true, true, true, true] rfl rfl (any_of HT_.out (by kernel_rfl)) (fun _ _ _ h => h) (Or.inl ⟨by rfl, ?_⟩) ?_ ?_
                                  rotate_left
                                  · intro w'
                                    go_simp
                                    with_reducible rfl
                                  rotate_left
                                  · simp only [Act.put, List.setIfInBounds_toArray, List.set_cons_zero, List.set_cons_succ, i64_w, i32_w]
                                    rfl
                                  refine done_ (done_of HT_.out (by kernel_rfl)) ?_
                                  try go_wp2
                                  go_ret
                                  exact ⟨by first | rfl | (simp [errW_none, errW_some] <;> rfl) | (simp [*, errW_none, errW_some] <;> rfl), by repeat (first | (with_reducible first | exact HB.out | apply below_alloc | apply pw_below_drewN | apply below_drew1 | refine below_set ?_ GE488.out) | exact HB.out)⟩
                      · rw [if_neg c37] at H
                        have c37b0 : (t487 == 0) = false := beq_eq_false_iff_ne.mpr c37
                        have c37b1 : (t487 != 0) = true := bne_iff_ne.mpr c37
                        obtain rfl := Option.some.inj H
                        obtain ⟨Ao77, co77, eo77⟩ := Kd.R_slice HO_9.out
                        subst eo77
                        go_wp2_with (first | ((with_reducible refine gate_callee (f := 14) rfl ?_); refine goesL_ (some 86) rfl rfl Try.func14 (by kernel_rfl) rfl #[.slice Ao77 x9_2.length co77, .int .i64 a1] rfl (by (try simp only [List.map_toArray, List.map_cons, List.map_nil]); first | done | rfl | (simp only [List.length_drop, List.length_take]; rfl)) ?_; (with_reducible refine (trimmed_Mean.calls k2 _ _ x9_2 a1 t485 t486 t487 _ ?side1 ?side2 A36.out).mono ?_); (case side1 => repeat (first | exact (Kd.R_reads' HO_9.out).2.2 | (with_reducible refine Kd.C_alloc ?_ _) | (with_reducible refine Kd.C_drewN ?_ _) | (with_reducible refine Kd.C_drew ?_))); (case side2 => exact (Kd.R_reads' HO_9.out).2.1); rintro e w78 ⟨rfl, hb⟩; refine ⟨_, rfl, ?_⟩; have n0_ := Aside0.mk (Kd.R_below (by (with_reducible repeat (first | apply Kd.R_alloc | apply Kd.R_drewN | apply Kd.R_drew)); exact HO_9.out) hb); have n1_ := Aside0.mk (Kd.R_below (by (with_reducible repeat (first | apply Kd.R_alloc | apply Kd.R_drewN | apply Kd.R_drew)); exact HO_10.out) hb); have n2_ := Aside0.mk (below_step (by repeat (first | (with_reducible first | exact HB.out | apply below_alloc | apply pw_below_drewN | apply below_drew1) | exact HB.out)) hb); clear HO_9; clear HO_10; clear HB; have HO_9 := n0_; have HO_10 := n1_; have HB := n2_; clear n0_ n1_ n2_; (try clear hb); (try clear hb2); (try clear hk); (try clear hi)) | ((with_reducible refine gate_dst (N := 12) rfl ?_); (try (refine gate_guard (by rfl) ?_; dsimp only)); refine box_event ?hg (N := 12) ?hd (cs := #[.int .i64 0, .int .i64 0]) (t := 31) ?hr ?_; (case hd => rfl); (case hg => rfl); (case hr => first | (go_simp; done) | (go_simp; rfl)); intro gb488 hg w79 hbox hb; have n0_ := Aside0.mk (Kd.R_below (by (with_reducible repeat (first | apply Kd.R_alloc | apply Kd.R_drewN | apply Kd.R_drew)); exact HO_9.out) hb); have n1_ := Aside0.mk (Kd.R_below (by (with_reducible repeat (first | apply Kd.R_alloc | apply Kd.R_drewN | apply Kd.R_drew)); exact HO_10.out) hb); have n2_ := Aside0.mk (below_step (by repeat (first | (with_reducible first | exact HB.out | apply below_alloc | apply pw_below_drewN | apply below_drew1) | exact HB.out)) hb); have n3_ := Aside0.mk (hbox); have n4_ := Aside0.mk ((by rw [hg]; exact (below_size (by repeat (first | (with_reducible first | exact HB.out | apply below_alloc | apply pw_below_drewN | apply below_drew1) | exact HB.out))) : w.heap.size ≤ gb488)); have n5_ := Aside0.mk ((by rw [hg]; exact (below_size (by repeat (first | (with_reducible first | exact HB.out | apply below_alloc | apply pw_below_drewN | apply below_drew1) | exact HB.out))) : w.heap.size ≤ gb488)); clear HO_9; clear HO_10; clear HB; have HO_9 := n0_; have HO_10 := n1_; have HB := n2_; have BK488 := n3_; have GW488 := n4_; have GE488 := n5_; clear n0_ n1_ n2_ n3_ n4_ n5_; clear hb hbox hg; have hcz80_0 : w79.cell? ⟨gb488, 0, none⟩ = some (.int .i64 0) := (blk_cell BK488.out 0).trans rfl; have hcz80_1 : w79.cell? ⟨gb488, 1, none⟩ = some (.int .i64 0) := (blk_cell BK488.out 1).trans rfl; have hfz80_0 := blk_frozen BK488.out 0; have hfz80_1 := blk_frozen BK488.out 1))
                        go_ret
                        exact ⟨by first | rfl | (simp [errW_none, errW_some] <;> rfl) | (simp [*, errW_none, errW_some] <;> rfl), by repeat (first | (with_reducible first | exact HB.out | apply below_alloc | apply pw_below_drewN | apply below_drew1 | refine below_set ?_ GE488.out) | exact HB.out)⟩
              · rw [if_neg c15] at H
                exact absurd H (by simp)
            · rw [if_neg c14] at H
              exact absurd H (by simp)
          · rw [if_neg c13] at H
            exact absurd H (by simp)
  · replace c6 := Bool.eq_false_iff.mpr c6
    subst c6
    have H1 : (some false) = some r := by rw [if_neg (show ¬ (false = true) by decide)] at H; exact H
    clear H
    have H := H1
    clear H1
    obtain rfl := Option.some.inj H
    go_enter Try.func6, Try.ntmps6
    go_wp2_with (first | ((with_reducible refine gate_callee (f := 11) rfl ?_); refine goesL_ (some 18) rfl rfl Try.func11 (by kernel_rfl) rfl #[] rfl (by (try simp only [List.map_toArray, List.map_cons, List.map_nil]); first | done | rfl | (simp only [List.length_drop, List.length_take]; rfl)) ?_; (with_reducible refine (salchowlaw28_awake.calls k  false _ A5.out).mono ?_); rintro e w81 ⟨rfl, hb⟩; refine ⟨_, rfl, ?_⟩; have n0_ := Aside0.mk (below_step (by repeat (first | (with_reducible first | exact HB.out | apply below_alloc | apply pw_below_drewN | apply below_drew1) | exact HB.out)) hb); clear HB; have HB := n0_; clear n0_; (try clear hb); (try clear hb2); (try clear hk); (try clear hi)))
    go_ret
    exact ⟨by first | rfl | (simp [errW_none, errW_some] <;> rfl) | (simp [*, errW_none, errW_some] <;> rfl), by repeat (first | (with_reducible first | exact HB.out | apply below_alloc | apply pw_below_drewN | apply below_drew1) | exact HB.out)⟩

/-- THE ONE PURE STATEMENT of salchowlaw28_TrimmedRobust: yours. -/
def salchowlaw28_TrimmedRobust.Pure : Prop := ∀ (l0 : List Int) (a1 : Int) (l2 : List Int) (l3 : List Int), l0.length ≤ maxLen → l0.length * 8 ≤ 140737488351232 → (∀ x ∈ l0, (Lit.int .i64 x).wf = true) → (Lit.int .i64 a1).wf = true → l2.length ≤ maxLen → l2.length * 8 ≤ 140737488351232 → (∀ x ∈ l2, (Lit.int .i64 x).wf = true) → l3.length ≤ maxLen → l3.length * 8 ≤ 140737488351232 → (∀ x ∈ l3, (Lit.int .i64 x).wf = true) → ∃ k, salchowlaw28_TrimmedRobust.f k l0 a1 l2 l3 = some true
theorem salchowlaw28_TrimmedRobust.walk (P : salchowlaw28_TrimmedRobust.Pure) (a0 : Option Addr) (len0 cap0 : Nat) (z0 : List Int) (a1 : Int) (a2 : Option Addr) (len2 cap2 : Nat) (z2 : List Int) (a3 : Option Addr) (len3 cap3 : Nat) (z3 : List Int) (w : World) (w0 : (a0 = none ∧ len0 = 0 ∧ cap0 = 0 ∧ z0 = []) ∨ ∃ x, a0 = some x ∧ len0 ≤ cap0 ∧ cap0 ≤ maxLen ∧ z0.length = cap0 ∧ (∀ i, i < z0.length → w.cell? (x.add i) = some (.int .i64 (z0.getD i 0))) ∧ ∀ n ∈ z0, (Lit.int .i64 n).wf = true) (y0 : len0 * 8 ≤ 140737488351232) (w1 : (Lit.int .i64 a1).wf = true) (w2 : (a2 = none ∧ len2 = 0 ∧ cap2 = 0 ∧ z2 = []) ∨ ∃ x, a2 = some x ∧ len2 ≤ cap2 ∧ cap2 ≤ maxLen ∧ z2.length = cap2 ∧ (∀ i, i < z2.length → w.cell? (x.add i) = some (.int .i64 (z2.getD i 0))) ∧ ∀ n ∈ z2, (Lit.int .i64 n).wf = true) (y2 : len2 * 8 ≤ 140737488351232) (w3 : (a3 = none ∧ len3 = 0 ∧ cap3 = 0 ∧ z3 = []) ∨ ∃ x, a3 = some x ∧ len3 ≤ cap3 ∧ cap3 ≤ maxLen ∧ z3.length = cap3 ∧ (∀ i, i < z3.length → w.cell? (x.add i) = some (.int .i64 (z3.getD i 0))) ∧ ∀ n ∈ z3, (Lit.int .i64 n).wf = true) (y3 : len3 * 8 ≤ 140737488351232) :
    Calls Try.prog 6 #[.slice a0 len0 cap0, .int .i64 a1, .slice a2 len2 cap2, .slice a3 len3 cap3] w fun e w' => e = .returned (.bool true) ∧ Below w.heap.size w w' := by
  obtain ⟨l0, rfl, hr0, hm0, hw0, hc0⟩ := ReadsInt.ofRowC w0
  obtain ⟨l2, rfl, hr2, hm2, hw2, hc2⟩ := ReadsInt.ofRowC w2
  obtain ⟨l3, rfl, hr3, hm3, hw3, hc3⟩ := ReadsInt.ofRowC w3
  obtain ⟨k, h⟩ := P l0 a1 l2 l3 hm0 y0 hw0 w1 hm2 y2 hw2 hm3 y3 hw3
  refine (salchowlaw28_TrimmedRobust.calls k _ _ l0 a1 _ _ l2 _ _ l3 true w (Kd.C_of_reads (d := (0 : Int)) (h1 := fun _ => rfl) hr0) hc0 (Kd.C_of_reads (d := (0 : Int)) (h1 := fun _ => rfl) hr2) hc2 (Kd.C_of_reads (d := (0 : Int)) (h1 := fun _ => rfl) hr3) hc3 h).mono ?_
  rintro e w' ⟨rfl, hd⟩
  exact ⟨rfl, hd⟩

end Go.Proofs.Ytfldgdkjijianaa.P
