/-
  Sums and differences of numbers of two words (math/bits.Add64, Sub64, by the shelf's laws), and math/bits.Mul64, in the form of printed functions.
-/
import Derived.Test.YtfldgdkjijianaaLay
import Derived.Test.YtfldgdkjijianaaWMore
import Derived.WalkSpells
import Derived.Laws.Pointers
namespace Go.Proofs.Ytfldgdkjijianaa.P
open Go.RowKit Go.Shelf Go.Proofs.YtfldgdkjijianaaW.PrintWords Go.Proofs.YtfldgdkjijianaaW.PrintLast Go.Proofs.YtfldgdkjijianaaW.PrintMore
set_option linter.unusedVariables false
set_option linter.unusedSimpArgs false

/-- A word of 64 bits. -/
def Wd (x : Int) : Prop := 0 ≤ x ∧ x < 18446744073709551616
instance (x : Int) : Decidable (Wd x) := by unfold Wd; exact inferInstance
/-- The borrow. -/
def bor (x y : Int) : Int := if x < y then 1 else 0

theorem add64 (x y c : Int) (hx : 0 ≤ x) (hy : 0 ≤ y) (hc0 : 0 ≤ c) (hc : c ≤ 1) (w : World) : (callFunc 84 #[.int .u64 x, .int .u64 y, .int .u64 c]).run Try.prog w =
    .ok (.value (.tuple #[.int .u64 ((x + y + c) % 18446744073709551616), .int .u64 ((x + y + c) / 18446744073709551616)])) w := by
  obtain ⟨x, rfl⟩ := Int.eq_ofNat_of_zero_le hx
  obtain ⟨y, rfl⟩ := Int.eq_ofNat_of_zero_le hy
  obtain ⟨c, rfl⟩ := Int.eq_ofNat_of_zero_le hc0
  refine (Any7.bits_Add64 Try.lAdd64 x y c (by omega) w).trans ?_
  congr 5 <;> omega
theorem add64_0 (x y : Int) (hx : 0 ≤ x) (hy : 0 ≤ y) (w : World) : (callFunc 84 #[.int .u64 x, .int .u64 y, .int .u64 0]).run Try.prog w =
    .ok (.value (.tuple #[.int .u64 ((x + y) % 18446744073709551616), .int .u64 ((x + y) / 18446744073709551616)])) w := by
  simpa using add64 x y 0 hx hy (Int.le_refl 0) (by decide) w
theorem sub64 (x y b : Int) (hx : 0 ≤ x) (hy : 0 ≤ y) (hy' : y < 18446744073709551616) (hb0 : 0 ≤ b) (hb : b ≤ 1) (w : World) : (callFunc 85 #[.int .u64 x, .int .u64 y, .int .u64 b]).run Try.prog w =
    .ok (.value (.tuple #[.int .u64 ((x - y - b) % 18446744073709551616), .int .u64 (if x < y + b then 1 else 0)])) w := by
  obtain ⟨x, rfl⟩ := Int.eq_ofNat_of_zero_le hx
  obtain ⟨y, rfl⟩ := Int.eq_ofNat_of_zero_le hy
  obtain ⟨b, rfl⟩ := Int.eq_ofNat_of_zero_le hb0
  have e1 : (((x + 18446744073709551616 - y - b) % 18446744073709551616 : Nat) : Int) = ((x : Int) - y - b) % 18446744073709551616 := by omega
  have e2 : ((if x < y + b then 1 else 0 : Nat) : Int) = if (x : Int) < y + b then 1 else 0 := by split <;> split <;> omega
  rw [← e1, ← e2]
  exact Any7.bits_Sub64 Try.lSub64 x y b (by omega) w
theorem sub64_0 (x y : Int) (hx : 0 ≤ x) (hy : 0 ≤ y) (hy' : y < 18446744073709551616) (w : World) : (callFunc 85 #[.int .u64 x, .int .u64 y, .int .u64 0]).run Try.prog w =
    .ok (.value (.tuple #[.int .u64 ((x - y) % 18446744073709551616), .int .u64 (if x < y then 1 else 0)])) w := by
  simpa using sub64 x y 0 hx hy hy' (Int.le_refl 0) (by decide) w

def bits_Mul64.f (a0 : Int) (a1 : Int) : Option (Int × Int) := if Wd a0 ∧ Wd a1 then some (a0 * a1 / 18446744073709551616, a0 * a1 % 18446744073709551616) else none
theorem bits_Mul64.calls (a0 : Int) (a1 : Int) (r1 : Int) (r2 : Int) (w : World) (h : bits_Mul64.f a0 a1 = some (r1, r2)) :
    Calls Try.prog 77 #[.int .u64 a0, .int .u64 a1] w fun e w' => e = .returned (.tuple #[.int .u64 r1, .int .u64 r2]) ∧ Drawn0 w w' := by
  unfold bits_Mul64.f at h
  split at h
  · rename_i hW
    obtain ⟨⟨a1, a2⟩, ⟨b1, b2⟩⟩ := hW
    simp only [Option.some.injEq, Prod.mk.injEq] at h
    obtain ⟨rfl, rfl⟩ := h
    obtain ⟨x, rfl⟩ := Int.eq_ofNat_of_zero_le a1
    obtain ⟨y, rfl⟩ := Int.eq_ofNat_of_zero_le b1
    refine (Any.bits_Mul64 Try.lMul64 x y (by omega) (by omega) w).mono ?_
    rintro e w' ⟨rfl, rfl⟩
    exact ⟨by rw [Int.natCast_ediv, Int.natCast_emod, Int.natCast_mul]; rfl, Drawn0.refl _⟩
  · cases h

def fraction_plus.f (a0_0 : Int) (a0_1 : Int) (a1_0 : Int) (a1_1 : Int) : Option (Int × Int) := if Wd a0_0 ∧ Wd a0_1 ∧ Wd a1_0 ∧ Wd a1_1 then some ((a0_0 + a1_0 + (a0_1 + a1_1) / 18446744073709551616) % 18446744073709551616, (a0_1 + a1_1) % 18446744073709551616) else none
theorem fraction_plus.calls (a0_0 : Int) (a0_1 : Int) (a1_0 : Int) (a1_1 : Int) (r1 : Int) (r2 : Int) (w : World) (h : fraction_plus.f a0_0 a0_1 a1_0 a1_1 = some (r1, r2)) :
    Calls Try.prog 60 #[.agg #[.int .u64 a0_0, .int .u64 a0_1], .agg #[.int .u64 a1_0, .int .u64 a1_1]] w fun e w' => e = .returned (.agg #[.int .u64 r1, .int .u64 r2]) ∧ Below w.heap.size w w' := by
  unfold fraction_plus.f at h
  split at h
  · rename_i hW
    obtain ⟨⟨a1, a2⟩, ⟨b1, b2⟩, ⟨c1, c2⟩, ⟨d1, d2⟩⟩ := hW
    simp only [Option.some.injEq, Prod.mk.injEq] at h
    obtain ⟨rfl, rfl⟩ := h
    have k0 : 0 ≤ (a0_1 + a1_1) / 18446744073709551616 := by omega
    have k1 : (a0_1 + a1_1) / 18446744073709551616 ≤ 1 := by omega
    go_enter Try.func60, Try.ntmps60
    go_wp2_with (first | simp only [add64_0 a0_1 a1_1 b1 d1] | simp only [add64 a0_0 a1_0 _ a1 c1 k0 k1])
    simp [bodyPost, results, Try.results60, go_sem]
    exact ((((Below.refl _ _).alloc (Nat.le_refl _) _).alloc (by simp) _).alloc (by simp; omega) _)
  · cases h

def fraction_minus.f (a0_0 : Int) (a0_1 : Int) (a1_0 : Int) (a1_1 : Int) : Option (Int × Int) := if Wd a0_0 ∧ Wd a0_1 ∧ Wd a1_0 ∧ Wd a1_1 then some ((a0_0 - a1_0 - bor a0_1 a1_1) % 18446744073709551616, (a0_1 - a1_1) % 18446744073709551616) else none
theorem fraction_minus.calls (a0_0 : Int) (a0_1 : Int) (a1_0 : Int) (a1_1 : Int) (r1 : Int) (r2 : Int) (w : World) (h : fraction_minus.f a0_0 a0_1 a1_0 a1_1 = some (r1, r2)) :
    Calls Try.prog 61 #[.agg #[.int .u64 a0_0, .int .u64 a0_1], .agg #[.int .u64 a1_0, .int .u64 a1_1]] w fun e w' => e = .returned (.agg #[.int .u64 r1, .int .u64 r2]) ∧ Below w.heap.size w w' := by
  unfold fraction_minus.f at h
  split at h
  · rename_i hW
    obtain ⟨⟨a1, a2⟩, ⟨b1, b2⟩, ⟨c1, c2⟩, ⟨d1, d2⟩⟩ := hW
    simp only [Option.some.injEq, Prod.mk.injEq] at h
    obtain ⟨rfl, rfl⟩ := h
    unfold bor
    have k0 : (0 : Int) ≤ (if a0_1 < a1_1 then 1 else 0) := by split <;> decide
    have k1 : (if a0_1 < a1_1 then 1 else 0 : Int) ≤ 1 := by split <;> decide
    go_enter Try.func61, Try.ntmps61
    go_wp2_with (first | simp only [sub64_0 a0_1 a1_1 b1 d1 d2] | simp only [sub64 a0_0 a1_0 _ a1 c1 c2 k0 k1])
    all_goals (simp [bodyPost, results, Try.results61, go_sem]; exact ((((Below.refl _ _).alloc (Nat.le_refl _) _).alloc (by simp) _).alloc (by simp; omega) _))
  · cases h


def salchowref01_minus.f (a0_0 : Int) (a0_1 : Int) (a1_0 : Int) (a1_1 : Int) : Option (Int × Int) := if Wd a0_0 ∧ Wd a0_1 ∧ Wd a1_0 ∧ Wd a1_1 then some ((a0_0 - a1_0 - bor a0_1 a1_1) % 18446744073709551616, (a0_1 - a1_1) % 18446744073709551616) else none
theorem salchowref01_minus.calls (a0_0 : Int) (a0_1 : Int) (a1_0 : Int) (a1_1 : Int) (r1 : Int) (r2 : Int) (w : World) (h : salchowref01_minus.f a0_0 a0_1 a1_0 a1_1 = some (r1, r2)) :
    Calls Try.prog 124 #[.agg #[.int .u64 a0_0, .int .u64 a0_1], .agg #[.int .u64 a1_0, .int .u64 a1_1]] w fun e w' => e = .returned (.agg #[.int .u64 r1, .int .u64 r2]) ∧ Below w.heap.size w w' := by
  unfold salchowref01_minus.f at h
  split at h
  · rename_i hW
    obtain ⟨⟨a1, a2⟩, ⟨b1, b2⟩, ⟨c1, c2⟩, ⟨d1, d2⟩⟩ := hW
    simp only [Option.some.injEq, Prod.mk.injEq] at h
    obtain ⟨rfl, rfl⟩ := h
    unfold bor
    have k0 : (0 : Int) ≤ (if a0_1 < a1_1 then 1 else 0) := by split <;> decide
    have k1 : (if a0_1 < a1_1 then 1 else 0 : Int) ≤ 1 := by split <;> decide
    go_enter Try.func124, Try.ntmps124
    go_wp2_with (first | simp only [sub64_0 a0_1 a1_1 b1 d1 d2] | simp only [sub64 a0_0 a1_0 _ a1 c1 c2 k0 k1])
    all_goals (simp [bodyPost, results, Try.results124, go_sem]; exact ((((Below.refl _ _).alloc (Nat.le_refl _) _).alloc (by simp) _).alloc (by simp; omega) _))
  · cases h

end Go.Proofs.Ytfldgdkjijianaa.P
