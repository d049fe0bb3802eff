/-
  trimmed.order: the indices of marks in their order, in the form of a printed function (at most 20 marks).
-/
import Derived.Test.YtfldgdkjijianaaLeafStable
import Derived.Test.YtfldgdkjijianaaLeafSort
import Derived.Test.YtfldgdkjijianaaPlStable
import Derived.Test.YtfldgdkjijianaaWMore
import Derived.Test.YtfldgdkjijianaaWAt
import Derived.Deep.QuietTactic
import Derived.BigQuiet
import Derived.Laws.MakeOwn
namespace Go.Proofs.Ytfldgdkjijianaa.P
open Go.RowKit Go.Sort Go.Proofs.YtfldgdkjijianaaW.PrintWords Go.Proofs.YtfldgdkjijianaaW.PrintLast Go.Proofs.YtfldgdkjijianaaW.PrintMore
set_option linter.unusedVariables false
set_option linter.unusedSimpArgs false

theorem cmp64_any (x y : Int) (W : World) : Calls Try.prog 70 #[.int .i64 x, .int .i64 y] W fun e w' => e = .returned (.int .i64 (Lib.compareInt x y)) ∧ w' = W :=
  AnyG.cmp_Compare_int Try.lCmpI64 x y W

set_option maxHeartbeats 1000000 in
set_option maxRecDepth 100000 in
/-- The closure: it compares the marks with two indices. -/
theorem order1_any (A0 : Option Addr) (c0 : Nat) (l0 : List Int) (pb : Nat) (x y : Int) (hx0 : 0 ≤ x) (hx1 : x < (l0.length : Int)) (hy0 : 0 ≤ y) (hy1 : y < (l0.length : Int)) (W : World)
    (hcell : W.cell? ⟨pb, 0, none⟩ = some (.slice A0 l0.length c0)) (hC : Kd.C (Kd.int .i64) W A0 l0.length l0) :
    Calls Try.prog 69 #[.int .i64 x, .int .i64 y, .pointer (some ⟨pb, 0, none⟩)] W fun e w' => e = .returned (.int .i64 (Lib.compareInt (rd l0 x) (rd l0 y))) ∧ ∃ q, w' = W.drewN q := by
  obtain ⟨ad, e1, h1⟩ := Kd.at_int hC x hx0 hx1
  cases e1
  obtain ⟨ad2, e2, h2⟩ := Kd.at_int hC y hy0 hy1
  cases e2
  have HC := Aside0.mk hC
  clear hC
  have hcon := cmp64_any (rd l0 x) (rd l0 y)
  generalize Lib.compareInt (rd l0 x) (rd l0 y) = r at hcon ⊢
  have HCON : Aside _ := hcon
  clear hcon
  go_enter Try.func69, Try.ntmps69
  go_wp2
  go_quiet ((go_at_call 70; exact Calls.quiet_of_same (HCON.out _)))
  go_wp2
  go_ret
  exact ⟨rfl, _, rfl⟩

/-- A row told by another name of its elements. -/
theorem putRow_map {α : Type} [Inhabited α] (enc : α → Value) (f : α → Int) (hf : ∀ x, enc x = .int .i64 (f x)) (w : World) (blk off : Nat) (d : Array α) :
    putRow enc w blk off d = putRow (Value.int .i64) w blk off (d.map f) := by
  unfold putRow
  refine mapBlock_congr _ _ _ _ fun c _ _ _ => ?_
  unfold putCells
  apply Array.ext_getElem?
  intro k
  simp only [Array.getElem?_mapIdx, Array.size_map]
  cases c[k]? with
  | none => rfl
  | some y =>
    simp only [Option.map_some]
    by_cases hk : off ≤ k ∧ k < off + d.size
    · rw [if_pos hk, if_pos hk, hf]
      congr 2
      rw [getElem!_pos d _ (by omega), getElem!_pos _ _ (by simp; omega), Array.getElem_map]
    · rw [if_neg hk, if_neg hk]

theorem grownBy_sortW {α : Type} [Inhabited α] (enc : α → Value) {w : World} {g n : Nat} {os : Array Obj} (d : Array α) (off : Nat) : w.grownBy (sortWorld enc w g off n d os) (some g) := by
  refine ⟨rfl, rfl, rfl, by simp [sortWorld], fun k hk hne => ?_⟩
  unfold sortWorld
  rw [heap_grow_old _ _ (by simpa using hk)]
  have : g ≠ k := fun e => hne (by rw [e])
  simp [putRow, mapBlock, Sort.ahead, Array.getElem?_modify, this]

/-- The row of indices, the first k of which have been laid. -/
def fillL (n k : Nat) : List Int := (List.range n).map fun i => if i < k then (i : Int) else 0
theorem fillL_length (n k : Nat) : (fillL n k).length = n := by simp [fillL]
def fillC (n k : Nat) : Array Value := (nums .i64 (fillL n k)).toArray
theorem fillC_zero (n : Nat) : madeCells #[Value.int .i64 0] n = fillC n 0 := by
  unfold fillC fillL nums
  apply Array.ext_getElem?
  intro i
  simp [madeCells]
  by_cases h : i < n
  · simp [h, Nat.mod_one]
  · simp [h]
theorem fillC_step (n k : Nat) : (fillC n k).setIfInBounds k (.int .i64 (k : Int)) = fillC n (k + 1) := by
  unfold fillC fillL nums
  apply Array.ext_getElem?
  intro i
  rw [Array.getElem?_setIfInBounds]
  simp only [List.map_map, List.getElem?_toArray, List.getElem?_map, List.size_toArray, List.length_map, List.length_range]
  by_cases h : i < n
  · rw [List.getElem?_range h]
    by_cases hk : k = i
    · subst hk
      simp [h]
    · rw [if_neg hk]
      simp only [Option.map_some, Function.comp]
      congr 2
      by_cases h2 : i < k
      · rw [if_pos h2, if_pos (by omega)]
      · rw [if_neg h2, if_neg (by omega)]
  · have : (List.range n)[i]? = none := by simp; omega
    rw [this]
    by_cases hk : k = i
    · subst hk
      simp [h]
    · simp [hk]
theorem fillC_get (n k i : Nat) (hi : i < n) : ∃ v, (fillC n k)[i]? = some v := by
  unfold fillC fillL nums
  simp [hi]

def pl_ordLe (l : List Int) (i j : Int) : Bool := decide (rd l i < rd l j ∨ (rd l i = rd l j ∧ i ≤ j))
def pl_idx (n : Nat) : List Int := (List.range n).map fun i : Nat => (i : Int)
theorem fillL_full (n : Nat) : fillL n n = pl_idx n := by
  unfold fillL pl_idx
  apply List.map_congr_left
  intro i hi
  rw [if_pos (by simpa using hi)]
def trimmed_order.f (l0 : List Int) : Option (List Int) := if l0.length ≤ 20 then some ((pl_idx l0.length).mergeSort (pl_ordLe l0)) else none

theorem ofFn_vals (m : Nat) : ((Array.ofFn (n := m) (id : Fin m → Fin m)).map fun x => (x.val : Int)).toList = pl_idx m := by
  unfold pl_idx
  apply List.ext_getElem
  · simp
  · intro i h1 h2
    simp only [Array.toList_map, List.getElem_map, Array.getElem_toList, Array.getElem_ofFn, id, List.getElem_range]

/-- What the stable sort makes of the indices. -/
theorem order_sorted (l : List Int) (n : Nat) (hn : l.length = n + 1) :
    ((Sort.insertionSort (ltOf fun x y : Fin (n + 1) => Lib.compareInt (rd l (x.val : Int)) (rd l (y.val : Int))) (Array.ofFn (n := n + 1) id) 0 l.length).map fun x => (x.val : Int)).toList = (pl_idx l.length).mergeSort (pl_ordLe l) := by
  have hsz : (Array.ofFn (n := n + 1) (id : Fin (n + 1) → Fin (n + 1))).size = n + 1 := by simp
  have hget : ∀ p (hp : p < n + 1), (Array.ofFn (n := n + 1) (id : Fin (n + 1) → Fin (n + 1)))[p]! = ⟨p, hp⟩ := by
    intro p hp
    rw [getElem!_pos _ p (by simpa using hp)]
    simp
  have h := insertionSort_stable (ltOf fun x y : Fin (n + 1) => Lib.compareInt (rd l (x.val : Int)) (rd l (y.val : Int)))
    (fun x y : Fin (n + 1) => decide (rd l (x.val : Int) < rd l (y.val : Int) ∨ (rd l (x.val : Int) = rd l (y.val : Int) ∧ x.val < y.val))) (fun x => x.val)
    (by
      intro x y hxy
      unfold ltOf Lib.compareInt
      rw [Bool.eq_iff_iff]
      simp only [decide_eq_true_eq]
      split
      · omega
      · split
        · omega
        · omega)
    ⟨by intro x; simp, by intro x y z; simp only [decide_eq_true_eq]; omega, by intro x y z; simp only [decide_eq_false_iff_not]; omega⟩
    (by
      intro x y h1 h2
      simp only [decide_eq_false_iff_not] at h1 h2
      apply Fin.ext
      omega)
    (Array.ofFn (n := n + 1) id)
    (by
      intro p q hpq hq
      rw [hsz] at hq
      rw [hget p (by omega), hget q hq]
      exact hpq)
  rw [hsz.trans hn.symm] at h
  rw [Array.toList_map, h, List.map_mergeSort (s := pl_ordLe l) (by
    intro a _ b _
    unfold pl_ordLe
    rw [Bool.eq_iff_iff]
    simp only [Bool.not_eq_true', decide_eq_false_iff_not, decide_eq_true_eq]
    omega)]
  congr 1
  have h2 := ofFn_vals (n + 1)
  rw [Array.toList_map] at h2
  rw [h2, hn]

/-- The world behind the making and the filling of the indices. -/
def ordW (w : World) (A0 : Option Addr) (c0 n k : Nat) : World := (w.alloc (.cells #[.slice A0 n c0] 22)).alloc (.cells (fillC n k) 3)
theorem ordW_below (w : World) (A0 : Option Addr) (c0 n k : Nat) : Below w.heap.size w (ordW w A0 c0 n k) := ((Below.refl _ _).alloc (Nat.le_refl _) _).alloc (by simp) _
theorem ordW_size (w : World) (A0 : Option Addr) (c0 n k : Nat) : (ordW w A0 c0 n k).heap.size = w.heap.size + 2 := by simp [ordW]
theorem ordW_heap (w : World) (A0 : Option Addr) (c0 n k : Nat) : (ordW w A0 c0 n k).heap[w.heap.size + 1]? = some (.cells (fillC n k) 3 (0, 0)) := by
  have h := heap_alloc_new (w.alloc (.cells #[.slice A0 n c0] 22)) (.cells (fillC n k) 3)
  rw [show (w.alloc (.cells #[.slice A0 n c0] 22)).heap.size = w.heap.size + 1 by simp] at h
  exact h
theorem ordW_box (w : World) (A0 : Option Addr) (c0 n k : Nat) : (ordW w A0 c0 n k).cell? ⟨w.heap.size, 0, none⟩ = some (.slice A0 n c0) := by
  simp [ordW]

set_option maxHeartbeats 2000000 in
set_option maxRecDepth 100000 in
/-- The call of the sort, behind the filling. -/
theorem order_call (A0 : Option Addr) (c0 : Nat) (l0 : List Int) (w : World) (hr0 : Kd.C (Kd.int .i64) w A0 l0.length l0) (h20 : l0.length ≤ 20) :
    Calls Try.prog 68 #[.slice (some ⟨w.heap.size + 1, 0, none⟩) l0.length l0.length, .func (.func 69) #[] #[.pointer (some ⟨w.heap.size, 0, none⟩)]] (ordW w A0 c0 l0.length l0.length) fun e w' =>
      e = .returned (.tuple #[]) ∧ Kd.R (Kd.int .i64) 3 w' w.heap.size (fun _ => True) (.slice (some ⟨w.heap.size + 1, 0, none⟩) l0.length l0.length) ((pl_idx l0.length).mergeSort (pl_ordLe l0)) ∧ Below w.heap.size w w' := by
  have hB := ordW_below w A0 c0 l0.length l0.length
  have hlen : (pl_idx l0.length).length = l0.length := by simp [pl_idx]
  have hown : Kd.R (Kd.int .i64) 3 (ordW w A0 c0 l0.length l0.length) w.heap.size (fun _ => True) (.slice (some ⟨w.heap.size + 1, 0, none⟩) l0.length l0.length) (pl_idx l0.length) := by
    refine leaf_int_R (fun _ _ => trivial) ?_
    rw [← fillL_full]
    refine ⟨by simp [nums, fillL], .inr ⟨w.heap.size + 1, l0.length, fillC l0.length l0.length, by rw [fillL_length], by omega, ordW_heap w A0 c0 _ _, by rw [fillL_length]; exact Nat.le_refl _, ?_, ?_, ?_⟩⟩
    · simp only [maxLen]; omega
    · simp [fillC, nums, fillL]
    · unfold fillC
      rw [List.take_of_length_le (by simp [nums, fillL])]
  rcases Nat.eq_zero_or_pos l0.length with h0 | h0
  · obtain rfl := List.eq_nil_of_length_eq_zero h0
    refine (sortStable_none (some ⟨w.heap.size + 1, 0, none⟩) 0 _ _).mono ?_
    rintro e w' ⟨rfl, rfl⟩
    refine ⟨rfl, ?_, hB⟩
    have : (pl_idx ([] : List Int).length).mergeSort (pl_ordLe []) = pl_idx ([] : List Int).length := by simp [pl_idx]
    rw [this]
    exact hown
  · obtain ⟨n, hn⟩ : ∃ n, l0.length = n + 1 := ⟨l0.length - 1, by omega⟩
    have hgetE : ∀ p (hp : p < n + 1), (Array.ofFn (n := n + 1) (id : Fin (n + 1) → Fin (n + 1)))[p]! = ⟨p, hp⟩ := by
      intro p hp
      rw [getElem!_pos _ p (by simpa using hp)]
      simp
    have hsz : (Array.ofFn (n := n + 1) (id : Fin (n + 1) → Fin (n + 1))).size = n + 1 := by simp
    have hHolds : Holds (fun x : Fin (n + 1) => Value.int .i64 (x.val : Int)) (ordW w A0 c0 l0.length l0.length) (w.heap.size + 1) 0 (Array.ofFn (n := n + 1) id) := by
      intro j hj
      rw [hsz] at hj
      have hb := ordW_heap w A0 c0 l0.length l0.length
      refine ⟨?_, by simp [World.frozen?, hb]⟩
      rw [hgetE j hj]
      simp only [World.cell?, hb, Nat.zero_add]
      simp only [Option.isSome_none, Bool.false_eq_true, if_false]
      unfold fillC
      rw [fillL_full]
      simp [pl_idx, nums, hn, hj]
    have R : Row1 (fun x : Fin (n + 1) => Value.int .i64 (x.val : Int)) (ordW w A0 c0 l0.length l0.length) (w.heap.size + 1) 0 (Array.ofFn (n := n + 1) id) :=
      ⟨fun _ => rfl, hHolds, by rw [ordW_size]; omega⟩
    have hcmp : CmpLays1 Try.prog 69 #[.pointer (some ⟨w.heap.size, 0, none⟩)] (fun x : Fin (n + 1) => Value.int .i64 (x.val : Int)) (fun x y : Fin (n + 1) => Lib.compareInt (rd l0 (x.val : Int)) (rd l0 (y.val : Int)))
        (w.heap.size + 1) 0 (Array.ofFn (n := n + 1) (id : Fin (n + 1) → Fin (n + 1))).size (ordW w A0 c0 l0.length l0.length) := by
      intro m os dk hdk x y
      have hgr := grownBy_sortW (fun x : Fin (n + 1) => Value.int .i64 (x.val : Int)) (w := ordW w A0 c0 l0.length l0.length) (g := w.heap.size + 1) (n := m) (os := os) dk 0
      have hbel : Below w.heap.size w (sortWorld (fun x : Fin (n + 1) => Value.int .i64 (x.val : Int)) (ordW w A0 c0 l0.length l0.length) (w.heap.size + 1) 0 m dk os) :=
        hB.grown hgr hB.size (fun k hk => by cases hk; omega)
      have hbox : (sortWorld (fun x : Fin (n + 1) => Value.int .i64 (x.val : Int)) (ordW w A0 c0 l0.length l0.length) (w.heap.size + 1) 0 m dk os).cell? ⟨w.heap.size, 0, none⟩ = some (.slice A0 l0.length c0) := by
        unfold sortWorld
        rw [cell?_grow _ _ _ (by rw [Go.Proofs.size_putRow]; show w.heap.size < (ordW w A0 c0 l0.length l0.length).heap.size; rw [ordW_size]; omega), cell?_putRow_other _ _ _ _ _ _ (.inl (by show w.heap.size ≠ w.heap.size + 1; omega))]
        exact ordW_box w A0 c0 _ _
      refine (order1_any A0 c0 l0 w.heap.size x.val y.val (by omega) (by omega) (by omega) (by omega) _ hbox (Kd.C_below hr0 hbel)).mono ?_
      rintro e w' ⟨rfl, q, hq⟩
      exact ⟨rfl, q, #[], by rw [hq, grow_empty]⟩
    have hc := sortStable_le20 (fun x : Fin (n + 1) => Value.int .i64 (x.val : Int)) (fun x y : Fin (n + 1) => Lib.compareInt (rd l0 (x.val : Int)) (rd l0 (y.val : Int))) 69 #[.pointer (some ⟨w.heap.size, 0, none⟩)]
      (w.heap.size + 1) 0 l0.length (Array.ofFn (n := n + 1) id) (ordW w A0 c0 l0.length l0.length) (enters_of Try.func69 (by kernel_rfl) rfl) hcmp R (by rw [hsz]; omega)
    rw [hsz.trans hn.symm] at hc
    refine hc.mono ?_
    rintro e w' ⟨rfl, m, os, hw⟩
    refine ⟨rfl, ?_⟩
    unfold sortWorld at hw
    rw [putRow_map _ (fun x : Fin (n + 1) => (x.val : Int)) (fun _ => rfl)] at hw
    have hsr := order_sorted l0 n hn
    have hr : ((Sort.insertionSort (ltOf fun x y : Fin (n + 1) => Lib.compareInt (rd l0 (x.val : Int)) (rd l0 (y.val : Int))) (Array.ofFn (n := n + 1) id) 0 l0.length).map fun x => (x.val : Int)) = ((pl_idx l0.length).mergeSort (pl_ordLe l0)).toArray := by
      rw [← hsr]
    rw [hr] at hw
    obtain ⟨h1, h2, h3⟩ := leaf_sorted (w0 := w) hB (by rw [hlen]) hown (by rw [List.length_mergeSort]) hw
    exact ⟨Kd.R_mono h1 (fun _ _ => trivial), h2⟩

set_option maxHeartbeats 2000000 in
set_option maxRecDepth 100000 in
theorem trimmed_order.calls (A0 : Option Addr) (c0 : Nat) (l0 : List Int) (r : List Int) (w : World) (hr0 : Kd.C (Kd.int .i64) w A0 l0.length l0) (hc0 : l0.length ≤ c0) (h : trimmed_order.f l0 = some r) :
    Calls Try.prog 34 #[.slice A0 l0.length c0] w fun e w' => ∃ v0_ : Value, e = .returned (v0_) ∧ Kd.R (Kd.int .i64) 3 w' w.heap.size (fun _ => True) v0_ r ∧ Below w.heap.size w w' := by
  unfold trimmed_order.f at h
  by_cases h20 : l0.length ≤ 20
  case neg => rw [if_neg h20] at h; cases h
  rw [if_pos h20] at h
  obtain rfl := Option.some.inj h
  have HC : Aside _ := order_call A0 c0 l0 w hr0 h20
  clear h hr0 hc0
  generalize (pl_idx l0.length).mergeSort (pl_ordLe l0) = r at *
  generalize hn : l0.length = n at *
  clear hn l0
  have hmk := print_make 27 3 .i64 8 Try.underlying27 (show (Try.prog.info? 3).map (fun i => (i.zero, i.size, i.bytes)) = some (some (.int .i64 0), 1, 8) by kernel_rfl) (by decide) n (by omega)
  rw [fillC_zero] at hmk
  go_enter Try.func34, Try.ntmps34
  go_wp2
  go_loopg [10] n (fun gk v10 wr => ∃ k : Nat, v10 = .int .i64 k ∧ k ≤ n ∧ n - k ≤ gk ∧ wr = (w.alloc (.cells #[.slice A0 n c0] 22)).alloc (.cells (fillC n k) 3))
  case atStart => exact ⟨0, rfl, Nat.zero_le _, Nat.le_refl _, rfl⟩
  case round =>
    obtain ⟨k, rfl, hk, hg, hw⟩ := hrel
    subst hw
    by_cases hlt : k < n
    · obtain ⟨v, hv⟩ := fillC_get n k k hlt
      have hst : ((w.alloc (.cells #[.slice A0 n c0] 22)).alloc (.cells (fillC n k) 3)).setCell ⟨w.heap.size + 1, k, none⟩ (.int .i64 (k : Int)) = (w.alloc (.cells #[.slice A0 n c0] 22)).alloc (.cells (fillC n (k + 1)) 3) := by
        rw [World.setCell_alloc_at _ _ _ _ _ (by simp), fillC_step]
      have hce : ((w.alloc (.cells #[.slice A0 n c0] 22)).alloc (.cells (fillC n k) 3)).cell? ⟨w.heap.size + 1, k, none⟩ = some v := by
        have h := heap_alloc_new (w.alloc (.cells #[.slice A0 n c0] 22)) (.cells (fillC n k) 3)
        rw [show (w.alloc (.cells #[.slice A0 n c0] 22)).heap.size = w.heap.size + 1 by simp] at h
        simp only [World.cell?, h]
        simpa using hv
      clear hv
      have p1 : (0 : Int) ≤ (k : Int) := by omega
      have p2 : (k : Int) < (n : Int) := by omega
      go_wp2
      go_roundg (n - (k + 1))
      case measure => omega
      case rel => exact ⟨k + 1, by go_num, by omega, Nat.le_refl _, by first | rfl | (rw [fillC_step]) | (rw [World.setCell_alloc_at _ _ _ _ _ (by simp), fillC_step])⟩
    · have hkn : k = n := by omega
      subst hkn
      have p1 : ¬ ((k : Int) < (k : Int)) := by omega
      have HC2 : Aside (Calls Try.prog 68 #[.slice (some ⟨w.heap.size + 1, 0, none⟩) k k, .func (.func 69) #[] #[.pointer (some ⟨w.heap.size, 0, none⟩)]] ((w.alloc (.cells #[.slice A0 k c0] 22)).alloc (.cells (fillC k k) 3)) fun e w' =>
        e = .returned (.tuple #[]) ∧ Kd.R (Kd.int .i64) 3 w' w.heap.size (fun _ => True) (.slice (some ⟨w.heap.size + 1, 0, none⟩) k k) r ∧ Below w.heap.size w w') := HC
      clear HC
      go_wp2_with ((go_at_call 68; refine (Aside.out HC2).mono ?_; rintro e w' ⟨rfl, hR, hB⟩; have HR : Aside0 _ := ⟨hR⟩; have HB : Aside0 _ := ⟨hB⟩; clear hR hB))
      go_ret
      exact ⟨_, rfl, HR.out, HB.out⟩
end Go.Proofs.Ytfldgdkjijianaa.P
