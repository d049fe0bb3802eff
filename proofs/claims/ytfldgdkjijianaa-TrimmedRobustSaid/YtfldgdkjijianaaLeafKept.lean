/-
  trimmed.Kept in the form of a printed function: the marks that are not dropped, ascending, or an error.
-/
import Derived.Laws.CopyOwn
import Derived.Lib.Hide
import Derived.Test.YtfldgdkjijianaaLeafSort
import Derived.Test.YtfldgdkjijianaaPx4
namespace Go.Proofs.Ytfldgdkjijianaa.P
open Go.RowKit Go.Sort Go.Proofs.YtfldgdkjijianaaW.PrintWords Go.Proofs.YtfldgdkjijianaaW.PrintLast Go.Proofs.YtfldgdkjijianaaW.PrintMore
set_option linter.unusedVariables false
set_option linter.unusedSimpArgs false

theorem leaf_one (l : List Int) : ∀ v ∈ nums .i64 l, v.oneCell' = true := by
  intro v hv
  simp only [nums, List.mem_map] at hv
  obtain ⟨x, _, rfl⟩ := hv
  rfl
theorem leaf_cells {w : World} {A : Option Addr} {l : List Int} {n : Nat} (h : Kd.C (Kd.int .i64) w A n l) (hp : 0 < (nums .i64 l).length) : ∃ ad, A = some ad ∧ ∀ j v, (nums .i64 l)[j]? = some v → w.cell? (ad.add j) = some v := by
  rw [nums_length] at hp
  have hl := h.1
  obtain ⟨ad, hA, hc⟩ := Kd.at_int h 0 (by omega) (by omega)
  refine ⟨ad, hA, fun j v hv => ?_⟩
  have hj : j < l.length := by
    rcases Nat.lt_or_ge j l.length with h' | h'
    · exact h'
    · rw [List.getElem?_eq_none (by rw [nums_length]; exact h')] at hv
      cases hv
  obtain ⟨ad2, hA2, hc2⟩ := Kd.at_int h (j : Int) (by omega) (by omega)
  rw [hA] at hA2
  cases hA2
  rw [Int.toNat_natCast] at hc2
  rw [hc2]
  simp only [nums, List.getElem?_map, List.getElem?_eq_getElem hj, Option.map_some, Option.some.injEq] at hv
  rw [← hv]
  simp only [Go.Proofs.YtfldgdkjijianaaW.PrintWords.rd, Int.toNat_natCast, List.getD_eq_getElem?_getD, List.getElem?_eq_getElem hj, Option.getD_some]
theorem leaf_copied {w2 : World} {base g n : Nat} {T : TypeId} {l : List Int} (hn : l.length = n) (h : w2.heap[g]? = some (.cells (splice (madeCells #[Value.int .i64 0] n).toList 0 (nums .i64 l)).toArray T (0, 0))) (hg : base ≤ g) (hm : n ≤ 9223372036854775807) :
    Kd.R (Kd.int .i64) T w2 base (fun _ => True) (.slice (some ⟨g, 0, none⟩) n n) l := by
  subst hn
  have hs : splice (madeCells #[Value.int .i64 0] l.length).toList 0 (nums .i64 l) = nums .i64 l := by
    unfold splice
    simp [madeCells, nums]
  rw [hs] at h
  refine leaf_int_R (fun _ _ => trivial) ⟨by simp [nums], .inr ⟨g, l.length, _, rfl, hg, h, Nat.le_refl _, by simp only [maxLen]; omega, by simp [nums], ?_⟩⟩
  rw [List.take_of_length_le (by simp [nums])]

theorem leaf_kept_row {T base g n dn : Nat} {w : World} {ok : Nat → Prop} {sl : List Int} (h : Kd.R (Kd.int .i64) T w base ok (.slice (some ⟨g, 0, none⟩) n n) sl) (hl : sl.length = n) (h2 : 2 * (dn : Int) ≤ (n : Int)) (hne : ¬ (n = dn)) :
    Kd.Q (Kd.int .i64) T w base ok (.slice (some ⟨g, dn, none⟩) (n - dn - dn) (n - dn)) ((sl.take (n - dn)).drop dn) := by
  have h1 := Kd.Q_take (m := n - dn) (Kd.Q_of_R h) (by omega)
  have h3 := Kd.Q_drop (k := dn) h1 (by rw [List.length_take]; omega)
  rw [if_neg hne] at h3
  have ha : ((some ⟨g, 0, none⟩ : Option Addr).map fun x => x.add (dn * (Kd.int .i64).sz)) = some ⟨g, dn, none⟩ := by
    show some ((⟨g, 0, none⟩ : Addr).add (dn * 1)) = _
    rw [Nat.mul_one, add_plain]
  rw [ha] at h3
  exact h3

def trimmed_Kept.f (k : Nat) (l0 : List Int) (a1 : Int) : Option (List Int × Int) := (trimmed_all.f k l0 a1).bind fun t =>
  if t = 0 then (if 0 ≤ a1 ∧ 2 * a1 ≤ (l0.length : Int) ∧ l0.length < 17592186044416 then some (((l0.mergeSort fun x y => decide (x ≤ y)).take ((l0.length : Int) - a1).toNat).drop a1.toNat, 0) else none) else some ([], t)
theorem trimmed_Kept.mono : ∀ a0 a1 k, LeO (trimmed_Kept.f k a0 a1) (trimmed_Kept.f (k + 1) a0 a1) := by
  intro a0 a1 k
  unfold trimmed_Kept.f
  exact LeO.bind (trimmed_all.mono a0 a1 k) (fun _ => LeO.refl _)

set_option maxHeartbeats 2000000 in
set_option maxRecDepth 100000 in
theorem trimmed_Kept.calls (k : Nat) (A0 : Option Addr) (c0 : Nat) (l0 : List Int) (a1 : Int) (r1 : List Int) (r2 : Int) (w : World) (hr0 : Kd.C (Kd.int .i64) w A0 l0.length l0) (hc0 : l0.length ≤ c0) (h : trimmed_Kept.f k l0 a1 = some (r1, r2)) :
    Calls Try.prog 12 #[.slice A0 l0.length c0, .int .i64 a1] w fun e w' => ∃ v0_ : Value, e = .returned (.tuple #[v0_, .int .i64 r2]) ∧ Kd.Q (Kd.int .i64) 2 w' w.heap.size (fun _ => True) v0_ r1 ∧ Below w.heap.size w w' := by
  unfold trimmed_Kept.f at h
  obtain ⟨t, ht, h⟩ := Option.bind_eq_some_iff.mp h
  have HA : Aside (∀ W, Kd.C (Kd.int .i64) W A0 l0.length l0 → Calls Try.prog 32 #[.slice A0 l0.length c0, .int .i64 a1] W fun e w' => e = .returned (.int .i64 t) ∧ Below W.heap.size W w') :=
    fun W hW => trimmed_all.calls k A0 c0 l0 a1 t W hW hc0 ht
  by_cases ht0 : t = 0
  · rw [if_pos ht0] at h
    subst ht0
    by_cases hc : 0 ≤ a1 ∧ 2 * a1 ≤ (l0.length : Int) ∧ l0.length < 17592186044416
    case neg => rw [if_neg hc] at h; cases h
    rw [if_pos hc] at h
    simp only [Option.some.injEq, Prod.mk.injEq] at h
    obtain ⟨rfl, rfl⟩ := h
    obtain ⟨h1, h2, h3⟩ := hc
    obtain ⟨dn, rfl⟩ := Int.eq_ofNat_of_zero_le h1
    have HR := Aside0.mk hr0
    clear hr0 ht h1
    generalize hs : (l0.mergeSort fun x y => decide (x ≤ y)) = sl
    have hsl : sl.length = l0.length := by rw [← hs, List.length_mergeSort]
    have HS : Aside (slices_Sort_int64_int64.f l0 = some sl) := by
      unfold slices_Sort_int64_int64.f Aside
      rw [if_pos (by omega), hs]
    clear hs
    have HL := Lib.hid hsl
    clear hsl
    generalize hn : l0.length = n at *
    have HN := Lib.hid hn
    clear hn
    have hmk := print_make 22 2 .i64 8 Try.underlying22 (show (Try.prog.info? 2).map (fun i => (i.zero, i.size, i.bytes)) = some (some (.int .i64 0), 1, 8) by kernel_rfl) (by decide) n (by omega)
    have hsub : wrap64 ((n : Int) - (dn : Int)) = (n : Int) - (dn : Int) := by unfold wrap64; omega
    have hB0 := Aside0.mk (Below.refl w.heap.size w)
    have q1 : (0 : Int) ≤ (dn : Int) := by omega
    have q2 : (dn : Int) ≤ (n : Int) - (dn : Int) := by omega
    have q3 : (n : Int) - (dn : Int) ≤ (n : Int) := by omega
    go_enter Try.func12, Try.ntmps12
    go_wp2_with (first | (go_at_call 32; refine (Aside.out HA _ HR.out).mono ?_; rintro e w1 ⟨rfl, hb⟩; have HB := Aside0.mk hb; clear hb; clear hB0; have HMADE : Aside0 ((w1.alloc (.cells (madeCells #[.int .i64 0] n) 2)).heap[w1.heap.size]? = some (.cells (madeCells #[.int .i64 0] n).toList.toArray 2 (0, 0))) := ⟨by rw [Array.toArray_toList]; exact heap_alloc_new w1 _⟩)  | ((with_reducible refine gate_builtin (b := .copy) (xs := #[.tmp 17, .tmp 18]) rfl ?_); refine wpList_copy_splice rfl (.tmp 17) (.tmp 18) 22 22 rfl 2 Try.underlying22 (by kernel_rfl) (some ⟨w1.heap.size, 0, none⟩) A0 n n n c0 rfl rfl w1.heap.size 0 (madeCells #[.int .i64 0] n).toList 2 HMADE.out (nums .i64 l0) ?hn ?hpos ?hfit ?h1 w.heap.size w ?hb ?hBg ?_; (case hn => rw [nums_length, HN.out]; first | exact (Nat.min_self n).symm | simp [Nat.min]); (case hpos => exact fun hp => ⟨rfl, leaf_cells (Kd.C_below HR.out (HB.out.alloc HB.out.size _)) hp⟩); (case hfit => rw [nums_length, HN.out]; simp [madeCells]); (case h1 => exact leaf_one l0); (case hb => exact HB.out.alloc HB.out.size _); (case hBg => exact HB.out.size); intro w2 hcop hb2; have HC2 := Aside0.mk (leaf_copied HN.out hcop.out HB.out.size (by omega)); have HB2 := Aside0.mk hb2; clear hcop hb2 HMADE)  | (go_at_call 33; refine (slices_Sort_int64_int64.calls (fun _ => True) _ l0 sl w w2 HB2.out HC2.out HS).mono ?_; rintro e w3 ⟨rfl, hr3, hb3, hk3⟩; have HR3 := Aside0.mk (Kd.R_mono hr3 (fun _ _ => trivial)); have HB3 := Aside0.mk hb3; clear hr3 hb3 hk3))
    · have hnd : n = dn := by assumption
      subst hnd
      have h0 : n = 0 := by omega
      subst h0
      have hs0 : sl = [] := List.eq_nil_of_length_eq_zero HL.out
      subst hs0
      go_ret2
      exact ⟨_, rfl, Kd.Q_of_R HR3.out, HB3.out⟩
    · have hne : ¬ (n = dn) := by assumption
      go_ret2
      exact ⟨_, rfl, leaf_kept_row HR3.out HL.out h2 hne, HB3.out⟩
  · rw [if_neg ht0] at h
    simp only [Option.some.injEq, Prod.mk.injEq] at h
    obtain ⟨rfl, rfl⟩ := h
    have b1 : (t != 0) = true := bne_iff_ne.mpr ht0
    have b2 : (t == 0) = false := beq_eq_false_iff_ne.mpr ht0
    have HR := Aside0.mk hr0
    clear hr0 ht ht0
    go_enter Try.func12, Try.ntmps12
    go_wp2_with (first | ((go_at_call 32; refine (Aside.out HA _ HR.out).mono ?_; rintro e w1 ⟨rfl, hb⟩; have HB := Aside0.mk hb; clear hb)))
    go_ret2
    exact ⟨_, rfl, Kd.Q_nil _ _ _ _ _, HB.out⟩
end Go.Proofs.Ytfldgdkjijianaa.P
