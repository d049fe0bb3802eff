/-
  Plain: the fractions' functions (gcd, Make, Valid, Cmp) tell the reduced fraction and the order of cross products.
-/
import Derived.IntWalk
import Derived.Test.YtfldgdkjijianaaPx13
import Derived.Test.YtfldgdkjijianaaPx5
namespace Go.Proofs.Ytfldgdkjijianaa.P
open Go.RowKit Go.Proofs.YtfldgdkjijianaaW.PrintWords Go.Proofs.YtfldgdkjijianaaW.PrintLast
set_option linter.unusedVariables false
set_option linter.unusedSimpArgs false

def Ri (x : Int) : Prop := -9223372036854775808 ≤ x ∧ x ≤ 9223372036854775807
theorem w64 (x : Int) (h : Ri x) : wrap64 x = x := by unfold Ri at h; unfold wrap64; omega
theorem u64 (x : Int) (h : 0 ≤ x) (h' : x < 18446744073709551616) : IntKind.u64.wrap x = x := by rw [IntKind.wrap_u64]; omega
theorem Ri_wf {x : Int} (h : (Lit.int .i64 x).wf = true) : Ri x := by
  simp only [Lit.wf, IntKind.min, IntKind.max, IntKind.signed, IntKind.bits, Bool.and_eq_true, decide_eq_true_eq, if_true] at h
  unfold Ri; omega

theorem ev_size (x : Int) (h : Ri x) : fraction_size.f x = some ((x.natAbs : Nat) : Int) := by
  unfold Ri at h
  unfold fraction_size.f
  simp only [IntKind.wrap_u64]
  split <;> (congr 1; omega)

theorem ev_gcd : ∀ (b a : Nat), Ev (fun k => fraction_gcd.l0 k (a : Int) (b : Int)) ((Nat.gcd a b : Nat) : Int) := by
  intro b
  induction b using Nat.strongRecOn with
  | ind b ih =>
    intro a
    by_cases hb : b = 0
    · subst hb
      refine Ev.step (f := fun _ => some (a : Int)) (fun k => by rw [fraction_gcd.l0.eq_2]; simp) ?_
      rw [Nat.gcd_zero_right]
      exact Ev.now _
    · refine Ev.step (f := fun k => fraction_gcd.l0 k (b : Int) ((a % b : Nat) : Int)) (fun k => by
        rw [fraction_gcd.l0.eq_2, if_neg (by omega)]
        rfl) ?_
      have h := ih (a % b) (Nat.mod_lt _ (by omega)) b
      rw [Nat.gcd_comm b (a % b), ← Nat.gcd_rec, Nat.gcd_comm] at h
      exact h
theorem ev_gcd' (a b : Nat) : Ev (fun k => fraction_gcd.f k (a : Int) (b : Int)) ((Nat.gcd a b : Nat) : Int) := ev_gcd b a

/-- The reduced fraction. -/
def nrm (n d : Int) : Int × Int := (n / (Int.gcd n d : Int), d / (Int.gcd n d : Int))
/-- What is told of a fraction: of 18 digits, below 0 or not; or 5. -/
def mkF (n d : Int) : Int × Int × Int :=
  if 1000000000000000000 < (nrm n d).1.natAbs ∨ 1000000000000000000 < (nrm n d).2.natAbs then (0, 0, 5)
  else (if (decide (n < 0) != decide (d < 0)) = true then -((nrm n d).1.natAbs : Int) else ((nrm n d).1.natAbs : Int), ((nrm n d).2.natAbs : Int), 0)
theorem nrm_spec (n d : Int) (hd : d ≠ 0) : ∃ g a b : Int, 0 < g ∧ (g = (Int.gcd n d : Int)) ∧ n = g * a ∧ d = g * b ∧ nrm n d = (a, b) ∧ Int.gcd a b = 1 := by
  have hg : 0 < Int.gcd n d := Int.gcd_pos_of_ne_zero_right _ hd
  obtain ⟨a, ha⟩ := Int.gcd_dvd_left n d
  obtain ⟨b, hb⟩ := Int.gcd_dvd_right n d
  have hg' : ((Int.gcd n d : Nat) : Int) ≠ 0 := by omega
  have e1 : n / (Int.gcd n d : Int) = a := Int.ediv_eq_of_eq_mul_right hg' ha
  have e2 : d / (Int.gcd n d : Int) = b := Int.ediv_eq_of_eq_mul_right hg' hb
  refine ⟨Int.gcd n d, a, b, by omega, rfl, ha, hb, by unfold nrm; rw [e1, e2], ?_⟩
  rw [← e1, ← e2]
  exact Int.gcd_ediv_gcd_ediv_gcd hg

theorem ev_signed (s : Bool) (x y : Int) (hx : 0 ≤ x) (hx' : x < 18446744073709551616) (hy : 0 ≤ y) (hy' : y < 18446744073709551616) : Ev (fun k => fraction_signed.f k s x y)
    (if 1000000000000000000 < x ∨ 1000000000000000000 < y then (0, 0, 5) else (if s = true then -x else x, y, 0)) := by
  have hj : ∀ b : Bool, (b = true ↔ (1000000000000000000 < x ∨ 1000000000000000000 < y)) → Ev (fun k => fraction_signed.j0 k s x y b) (if 1000000000000000000 < x ∨ 1000000000000000000 < y then (0, 0, 5) else (if s = true then -x else x, y, 0)) := by
    intro b hb
    refine Ev.step (f := fun _ => some _) (fun k => ?_) (Ev.now _)
    rw [fraction_signed.j0.eq_2]
    by_cases h : 1000000000000000000 < x ∨ 1000000000000000000 < y
    · rw [if_pos (hb.2 h), if_pos h]
    · have hb' : ¬ b = true := fun e => h (hb.1 e)
      rw [if_neg hb', if_neg h]
      rw [w64 x (by unfold Ri; omega), w64 y (by unfold Ri; omega), w64 (-x) (by unfold Ri; omega)]
      split <;> rfl
  unfold fraction_signed.f
  by_cases h : x > 1000000000000000000
  · simp only [if_pos h]
    exact hj true (by simp; omega)
  · simp only [if_neg h]
    exact hj _ (by rw [decide_eq_true_eq]; omega)

theorem ev_make (n d : Int) (hn : Ri n) (hd : Ri d) (h0 : d ≠ 0) : Ev (fun k => fraction_Make.f k n d) (mkF n d) := by
  unfold fraction_Make.f
  simp only [if_neg h0, ev_size n hn, ev_size d hd, Option.bind_some]
  obtain ⟨g, a, b, hg, hgg, ha, hb, hnrm, hab⟩ := nrm_spec n d h0
  have hr : Ev (fun k => fraction_reduced.f k (decide (n < 0) != decide (d < 0)) (n.natAbs : Int) (d.natAbs : Int)) (mkF n d) := by
    unfold fraction_reduced.f
    refine Ev.bind (ev_gcd' n.natAbs d.natAbs) ?_
    have e0 : ((Nat.gcd n.natAbs d.natAbs : Nat) : Int) = g := by rw [hgg]; rfl
    rw [e0]
    simp only [if_neg (show ¬ g = 0 by omega)]
    have e1 : IntKind.u64.wrap (Int.tdiv (n.natAbs : Int) g) = (a.natAbs : Int) := by
      have : (n.natAbs : Int) = g * (a.natAbs : Int) := by rw [ha, Int.natAbs_mul]; push_cast; congr 1; omega
      rw [this, Int.mul_tdiv_cancel_left _ (by omega)]
      have : a.natAbs ≤ n.natAbs := by rw [ha, Int.natAbs_mul]; exact Nat.le_mul_of_pos_left _ (by omega)
      unfold Ri at hn
      exact u64 _ (by omega) (by omega)
    have e2 : IntKind.u64.wrap (Int.tdiv (d.natAbs : Int) g) = (b.natAbs : Int) := by
      have : (d.natAbs : Int) = g * (b.natAbs : Int) := by rw [hb, Int.natAbs_mul]; push_cast; congr 1; omega
      rw [this, Int.mul_tdiv_cancel_left _ (by omega)]
      have : b.natAbs ≤ d.natAbs := by rw [hb, Int.natAbs_mul]; exact Nat.le_mul_of_pos_left _ (by omega)
      unfold Ri at hd
      exact u64 _ (by omega) (by omega)
    rw [e1, e2]
    have hla : a.natAbs ≤ n.natAbs := by rw [ha, Int.natAbs_mul]; exact Nat.le_mul_of_pos_left _ (by omega)
    have hlb : b.natAbs ≤ d.natAbs := by rw [hb, Int.natAbs_mul]; exact Nat.le_mul_of_pos_left _ (by omega)
    unfold Ri at hn hd
    refine Ev.bind (ev_signed _ (a.natAbs : Int) (b.natAbs : Int) (by omega) (by omega) (by omega) (by omega)) ?_
    refine Ev.congr (f := fun _ => some (mkF n d)) (fun k => ?_) (Ev.now _)
    unfold mkF
    rw [hnrm]
    simp only [Option.some.injEq]
    by_cases hc : 1000000000000000000 < a.natAbs ∨ 1000000000000000000 < b.natAbs
    · rw [if_pos hc, if_pos (by omega)]
    · rw [if_neg hc, if_neg (by omega)]
  refine Ev.bind hr ?_
  exact Ev.congr (f := fun _ => some (mkF n d)) (fun k => rfl) (Ev.now _)

/-- A fraction in its own form. -/
def Vd (p : Int × Int) : Prop := 1 ≤ p.2 ∧ p.2 ≤ 1000000000000000000 ∧ -1000000000000000000 ≤ p.1 ∧ p.1 ≤ 1000000000000000000 ∧ Int.gcd p.1 p.2 = 1
instance (p : Int × Int) : Decidable (Vd p) := by unfold Vd; exact inferInstance
theorem mkF_nrm (n d : Int) (hd : 0 < d) (h1 : (nrm n d).1.natAbs ≤ 1000000000000000000) (h2 : (nrm n d).2.natAbs ≤ 1000000000000000000) : mkF n d = ((nrm n d).1, (nrm n d).2, 0) := by
  obtain ⟨g, a, b, hg, hgg, ha, hb, hnrm, hab⟩ := nrm_spec n d (by omega)
  have hb0 : 0 < b := by
    rcases Int.lt_or_le 0 b with h | h
    · exact h
    · have := Int.mul_le_mul_of_nonneg_left h (Int.le_of_lt hg); omega
  unfold mkF
  rw [if_neg (by omega), hnrm]
  simp only
  have hd' : decide (d < 0) = false := by simp; omega
  rw [hd', Bool.bne_false]
  have hs : n < 0 ↔ a < 0 := by
    rw [ha]
    constructor
    · intro h
      rcases Int.lt_or_le a 0 with h' | h'
      · exact h'
      · have := Int.mul_nonneg (Int.le_of_lt hg) h'; omega
    · intro h; exact Int.mul_neg_of_pos_of_neg hg h
  by_cases hn : n < 0
  · have := hs.1 hn
    rw [if_pos (by simpa using hn)]
    congr 1
    · omega
    · congr 1; omega
  · have : ¬ a < 0 := fun h => hn (hs.2 h)
    rw [if_neg (by simpa using hn)]
    congr 1
    · omega
    · congr 1; omega
theorem nrm_small (n d : Int) (hd : 0 < d) : (nrm n d).1.natAbs ≤ n.natAbs ∧ (nrm n d).2.natAbs ≤ d.natAbs ∧ 0 < (nrm n d).2 ∧ (nrm n d).1 * d = n * (nrm n d).2 ∧ Int.gcd (nrm n d).1 (nrm n d).2 = 1 := by
  obtain ⟨g, a, b, hg, hgg, ha, hb, hnrm, hab⟩ := nrm_spec n d (by omega)
  have hb0 : 0 < b := by
    rcases Int.lt_or_le 0 b with h | h
    · exact h
    · have := Int.mul_le_mul_of_nonneg_left h (Int.le_of_lt hg); omega
  rw [hnrm]
  refine ⟨?_, ?_, hb0, ?_, hab⟩
  · rw [ha, Int.natAbs_mul]; exact Nat.le_mul_of_pos_left _ (by omega)
  · rw [hb, Int.natAbs_mul]; exact Nat.le_mul_of_pos_left _ (by omega)
  · show a * d = n * b
    rw [ha, hb]
    rw [← Int.mul_assoc, Int.mul_comm a g]
theorem nrm_Vd (n d : Int) (hd : 0 < d) (h1 : n.natAbs ≤ 1000000000000000000) (h2 : d ≤ 1000000000000000000) : Vd (nrm n d) := by
  obtain ⟨h3, h4, h5, _, h6⟩ := nrm_small n d hd
  unfold Vd
  omega
theorem ev_make_nrm (n d : Int) (hd : 0 < d) (h1 : n.natAbs ≤ 1000000000000000000) (h2 : d ≤ 1000000000000000000) : Ev (fun k => fraction_Make.f k n d) ((nrm n d).1, (nrm n d).2, 0) := by
  have h := ev_make n d (by unfold Ri; omega) (by unfold Ri; omega) (by omega)
  obtain ⟨h3, h4, _⟩ := nrm_small n d hd
  rw [mkF_nrm n d hd (by omega) (by omega)] at h
  exact h

theorem ev_valid (p : Int × Int) : Ev (fun k => fraction_Valid.f k p.1 p.2) (decide (Vd p)) := by
  unfold fraction_Valid.f
  by_cases h1 : 1 ≤ p.2
  · by_cases h2 : p.2 ≤ 1000000000000000000
    · by_cases h3 : (-1000000000000000000) ≤ p.1
      · by_cases h4 : p.1 ≤ 1000000000000000000
        · simp only [if_pos h1, if_pos h2, if_pos h3, if_pos h4, ev_size p.1 (by unfold Ri; omega), Option.bind_some, u64 p.2 (by omega) (by omega)]
          have e : p.2 = ((p.2.natAbs : Nat) : Int) := by omega
          have h := ev_gcd' p.1.natAbs p.2.natAbs
          rw [← e] at h
          refine Ev.bind h (Ev.congr (f := fun _ => some (decide (Vd p))) (fun k => ?_) (Ev.now _))
          congr 1
          rw [Bool.eq_iff_iff, beq_iff_eq, decide_eq_true_eq]
          unfold Vd
          have : Int.gcd p.1 p.2 = Nat.gcd p.1.natAbs p.2.natAbs := rfl
          omega
        · simp only [if_pos h1, if_pos h2, if_pos h3, if_neg h4]
          rw [decide_eq_false (fun h => by unfold Vd at h; omega : ¬ Vd p)]; exact Ev.now _
      · simp only [if_pos h1, if_pos h2, if_neg h3]
        rw [decide_eq_false (fun h => by unfold Vd at h; omega : ¬ Vd p)]; exact Ev.now _
    · simp only [if_pos h1, if_neg h2]
      rw [decide_eq_false (fun h => by unfold Vd at h; omega : ¬ Vd p)]; exact Ev.now _
  · simp only [if_neg h1]
    rw [decide_eq_false (fun h => by unfold Vd at h; omega : ¬ Vd p)]; exact Ev.now _

/-- The order of two fractions. -/
def cmpF (p q : Int × Int) : Int := if p = q then 0 else if p.1 * q.2 < q.1 * p.2 then -1 else 1
def hi64 (X : Int) : Int := X / 18446744073709551616
def lo64 (X : Int) : Int := X % 18446744073709551616
theorem times_f (x y : Int) (hx : Wd x) (hy : Wd y) : fraction_times.f x y = some (hi64 (x * y), lo64 (x * y)) := by
  unfold fraction_times.f bits_Mul64.f
  rw [if_pos ⟨hx, hy⟩]
  rfl
theorem less_split (X Y : Int) : fraction_less.f (hi64 X) (lo64 X) (hi64 Y) (lo64 Y) = some (decide (X < Y)) := by
  unfold fraction_less.f hi64 lo64
  split
  · congr 1; rw [eq_comm, decide_eq_true_eq]; omega
  · split
    · congr 1; rw [decide_eq_decide]; omega
    · congr 1; rw [eq_comm, decide_eq_false_iff_not]; omega
theorem Vd_inj (p q : Int × Int) (hp : Vd p) (hq : Vd q) (h : p.1 * q.2 = q.1 * p.2) : p = q := by
  obtain ⟨a, b⟩ := p
  obtain ⟨c, d⟩ := q
  obtain ⟨hb, _, _, _, hab⟩ := hp
  obtain ⟨hd, _, _, _, hcd⟩ := hq
  simp only at *
  have h1 : b ∣ d := by
    have : b ∣ a * d := ⟨c, by rw [h, Int.mul_comm]⟩
    rw [← Int.natAbs_dvd_natAbs] at this ⊢; rw [Int.natAbs_mul] at this; exact Nat.Coprime.dvd_of_dvd_mul_left (Nat.Coprime.symm hab) this
  have h2 : d ∣ b := by
    have : d ∣ c * b := ⟨a, by rw [← h, Int.mul_comm]⟩
    rw [← Int.natAbs_dvd_natAbs] at this ⊢; rw [Int.natAbs_mul] at this; exact Nat.Coprime.dvd_of_dvd_mul_left (Nat.Coprime.symm hcd) this
  have hbd : b = d := Int.dvd_antisymm (by omega) (by omega) h1 h2
  subst hbd
  have : a = c := Int.eq_of_mul_eq_mul_right (by omega) h
  rw [this]

set_option maxRecDepth 100000 in
theorem ev_cmp (p q : Int × Int) (hp : Vd p) (hq : Vd q) : Ev (fun k => fraction_Cmp.f k p.1 p.2 q.1 q.2) (cmpF p q) := by
  unfold fraction_Cmp.f
  have h1 := ev_valid p
  have h2 := ev_valid q
  rw [decide_eq_true hp] at h1
  rw [decide_eq_true hq] at h2
  refine Ev.bind h1 (Ev.bind h2 ?_)
  simp only [if_true]
  have heq : (p.1 == q.1 && (p.2 == q.2)) = decide (p = q) := by
    rw [Bool.eq_iff_iff]
    simp only [Bool.and_eq_true, beq_iff_eq, decide_eq_true_eq]
    constructor
    · rintro ⟨h, h'⟩; exact Prod.ext h h'
    · rintro rfl; exact ⟨rfl, rfl⟩
  rw [heq]
  by_cases he : p = q
  · refine Ev.step (f := fun _ => some (cmpF p q)) (fun k => ?_) (Ev.now _)
    rw [fraction_Cmp.j0.eq_2]
    simp [he, cmpF]
  · refine Ev.step (f := fun _ => some (cmpF p q)) (fun k => ?_) (Ev.now _)
    rw [fraction_Cmp.j0.eq_2, if_neg (by simpa using he)]
    simp only [if_true]
    unfold cmpF
    rw [if_neg he]
    obtain ⟨a, b⟩ := p
    obtain ⟨c, d⟩ := q
    have hne : a * d ≠ c * b := fun h => he (Vd_inj _ _ hp hq h)
    obtain ⟨hb, hb', ha, ha', hab⟩ := hp
    obtain ⟨hd, hd', hc, hc', hcd⟩ := hq
    simp only at *
    by_cases hs : a < 0
    · have hn1 : a * d < 0 := Int.mul_neg_of_neg_of_pos hs (by omega)
      by_cases hs' : c < 0
      · rw [if_neg (by simp [hs, hs'])]
        have hA := ev_size a (by unfold Ri; omega)
        have hC := ev_size c (by unfold Ri; omega)
        rw [hA, Option.bind_some, u64 d (by omega) (by omega), times_f _ _ (by unfold Wd; omega) (by unfold Wd; omega), Option.bind_some, hC, Option.bind_some, u64 b (by omega) (by omega), times_f _ _ (by unfold Wd; omega) (by unfold Wd; omega), Option.bind_some, less_split, Option.bind_some]
        have e1 : (a.natAbs : Int) * d = -(a * d) := by rw [show (a.natAbs : Int) = -a by omega, Int.neg_mul]
        have e2 : (c.natAbs : Int) * b = -(c * b) := by rw [show (c.natAbs : Int) = -c by omega, Int.neg_mul]
        rw [e1, e2, decide_eq_true hs]
        by_cases hl : a * d < c * b
        · rw [if_pos hl, if_neg (by simp; omega)]
        · rw [if_neg hl, if_pos (by simp; omega)]
      · have hn2 : 0 ≤ c * b := Int.mul_nonneg (by omega) (by omega)
        rw [if_pos (by simp [hs, hs']), if_pos hs, if_pos (by omega)]
    · have hn1 : 0 ≤ a * d := Int.mul_nonneg (by omega) (by omega)
      by_cases hs' : c < 0
      · have hn2 : c * b < 0 := Int.mul_neg_of_neg_of_pos hs' (by omega)
        rw [if_pos (by simp [hs, hs']), if_neg hs, if_neg (by omega)]
      · rw [if_neg (by simp [hs, hs'])]
        have hA := ev_size a (by unfold Ri; omega)
        have hC := ev_size c (by unfold Ri; omega)
        rw [hA, Option.bind_some, u64 d (by omega) (by omega), times_f _ _ (by unfold Wd; omega) (by unfold Wd; omega), Option.bind_some, hC, Option.bind_some, u64 b (by omega) (by omega), times_f _ _ (by unfold Wd; omega) (by unfold Wd; omega), Option.bind_some, less_split, Option.bind_some]
        have e1 : (a.natAbs : Int) = a := by omega
        have e2 : (c.natAbs : Int) = c := by omega
        rw [e1, e2, decide_eq_false hs]
        by_cases hl : a * d < c * b
        · rw [if_pos hl, if_neg (by simp; omega)]
        · rw [if_neg hl, if_pos (by simp; omega)]

theorem cmpF_le (p q : Int × Int) (hp : Vd p) (hq : Vd q) (h : p.1 * q.2 ≤ q.1 * p.2) : cmpF p q ≤ 0 := by
  unfold cmpF
  split
  · decide
  · rename_i hne
    rw [if_pos (by
      have : p.1 * q.2 ≠ q.1 * p.2 := fun e => hne (Vd_inj p q hp hq e)
      omega)]
    decide
theorem nrm_cross (n d n' d' : Int) (hd : 0 < d) (hd' : 0 < d') (h : n * d' ≤ n' * d) : (nrm n d).1 * (nrm n' d').2 ≤ (nrm n' d').1 * (nrm n d).2 := by
  obtain ⟨_, _, h1, h2, _⟩ := nrm_small n d hd
  obtain ⟨_, _, h3, h4, _⟩ := nrm_small n' d' hd'
  generalize (nrm n d).1 = a at *
  generalize (nrm n d).2 = b at *
  generalize (nrm n' d').1 = a' at *
  generalize (nrm n' d').2 = b' at *
  -- a d = n b, a' d' = n' b'
  have hpos : 0 < d * d' := Int.mul_pos hd hd'
  have e1 : (a * b') * (d * d') = (n * d') * (b * b') := by
    calc (a * b') * (d * d') = (a * d) * (b' * d') := by simp only [Int.mul_assoc, Int.mul_left_comm, Int.mul_comm]
      _ = (n * b) * (b' * d') := by rw [h2]
      _ = (n * d') * (b * b') := by simp only [Int.mul_assoc, Int.mul_left_comm, Int.mul_comm]
  have e2 : (a' * b) * (d * d') = (n' * d) * (b * b') := by
    calc (a' * b) * (d * d') = (a' * d') * (b * d) := by simp only [Int.mul_assoc, Int.mul_left_comm, Int.mul_comm]
      _ = (n' * b') * (b * d) := by rw [h4]
      _ = (n' * d) * (b * b') := by simp only [Int.mul_assoc, Int.mul_left_comm, Int.mul_comm]
  have h5 : (n * d') * (b * b') ≤ (n' * d) * (b * b') := Int.mul_le_mul_of_nonneg_right h (Int.le_of_lt (Int.mul_pos h1 h3))
  rw [← e1, ← e2] at h5
  exact Int.le_of_mul_le_mul_right h5 hpos
theorem nrm_cmp (n d n' d' : Int) (hd : 0 < d) (hd' : 0 < d') (h1 : n.natAbs ≤ 1000000000000000000) (h2 : d ≤ 1000000000000000000) (h1' : n'.natAbs ≤ 1000000000000000000) (h2' : d' ≤ 1000000000000000000)
    (h : n * d' ≤ n' * d) : cmpF (nrm n d) (nrm n' d') ≤ 0 :=
  cmpF_le _ _ (nrm_Vd n d hd h1 h2) (nrm_Vd n' d' hd' h1' h2') (nrm_cross n d n' d' hd hd' h)
end Go.Proofs.Ytfldgdkjijianaa.P
