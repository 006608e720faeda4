/- Numbers of 192 bits: sums, opposites, products of whole numbers, as the document reckons them. -/
import Derived.Test.YthegdcodjhbonaaZSliceChunksx24
import Derived.Laws.Bits64
import Derived.Laws.BitsLemmas
import Derived.Test.YthegdcodjhbonaaZSliceChunksx18
import Derived.Test.YthegdcodjhbonaaZSliceChunksx16
namespace Go.Proofs.Ythegdcodjhbonaa.ThA
open Go.RowKit Go.Proofs.Ythegdcodjhbonaa.PA Go.Proofs.YthegdcodjhbonaaW.PrintWords Go.Proofs.YthegdcodjhbonaaW.PrintLast Go.Proofs.YthegdcodjhbonaaW.PrintMore
/-- A whole number, in 192 bits. -/
def wd (n : Int) : S80 := ⟨n / 18446744073709551616 / 18446744073709551616 % 18446744073709551616, n / 18446744073709551616 % 18446744073709551616, n % 18446744073709551616⟩
theorem plus_wd (a b : Int) : belvedereref1_plus.f (wd a).f0 (wd a).f1 (wd a).f2 (wd b).f0 (wd b).f1 (wd b).f2 = some ((wd (a + b)).f0, (wd (a + b)).f1, (wd (a + b)).f2) := by
  unfold belvedereref1_plus.f wd
  simp only
  rw [if_pos (by omega)]
  congr 1
  refine Prod.ext ?_ (Prod.ext ?_ ?_)
  · simp only; omega
  · simp only; omega
  · simp only; omega
theorem xor_max (x : Int) (h0 : 0 ≤ x) (h1 : x < 18446744073709551616) : Go.bits .xor .u64 18446744073709551615 x = 18446744073709551615 - x := by
  obtain ⟨n, rfl⟩ := Int.eq_ofNat_of_zero_le h0
  have hn : n < 18446744073709551616 := by omega
  have h2 := bits_xor_u64_nat 18446744073709551615 n (by omega) hn
  rw [show ((18446744073709551615 : Nat) : Int) = 18446744073709551615 from rfl] at h2
  rw [h2]
  have h3 : 18446744073709551615 ^^^ n = 18446744073709551615 - n := by
    apply Nat.eq_of_testBit_eq
    intro i
    have e : 18446744073709551615 - n = 2 ^ 64 - (n + 1) := by omega
    rw [e, Nat.testBit_two_pow_sub_succ (by omega : n < 2 ^ 64), Nat.testBit_xor, show (18446744073709551615 : Nat) = 2 ^ 64 - 1 by rfl, Nat.testBit_two_pow_sub_one]
    by_cases h : i < 64
    · simp [h]
    · simp [h]
      exact Nat.testBit_lt_two_pow (Nat.lt_of_lt_of_le (by omega : n < 2 ^ 64) (Nat.pow_le_pow_right (by omega) (by omega)))
  rw [h3]
  omega
theorem minus_wd (a : Int) : belvedereref1_minus.f (wd a).f0 (wd a).f1 (wd a).f2 = some ((wd (-a)).f0, (wd (-a)).f1, (wd (-a)).f2) := by
  have e : ∀ b : Int, belvedereref1_plus.f (18446744073709551615 - (wd a).f0) (18446744073709551615 - (wd a).f1) (18446744073709551615 - (wd a).f2) 0 0 1 = some ((wd (-a)).f0, (wd (-a)).f1, (wd (-a)).f2) := by
    intro _
    unfold belvedereref1_plus.f wd
    simp only
    rw [if_pos (by omega)]
    congr 1
    refine Prod.ext ?_ (Prod.ext ?_ ?_)
    · simp only; omega
    · simp only; omega
    · simp only; omega
  unfold belvedereref1_minus.f
  rw [xor_max _ (by unfold wd; simp only; omega) (by unfold wd; simp only; omega), xor_max _ (by unfold wd; simp only; omega) (by unfold wd; simp only; omega), xor_max _ (by unfold wd; simp only; omega) (by unfold wd; simp only; omega), e 0]
  rfl
theorem wrap_u64 (n : Int) : IntKind.u64.wrap n = n % 18446744073709551616 := by simp [IntKind.wrap, IntKind.bits, IntKind.signed]
theorem and32 (x : Int) (h0 : 0 ≤ x) (h1 : x < 18446744073709551616) : Go.bits .and .u64 x 4294967295 = x % 4294967296 :=
  bits_mask .u64 64 (by decide) (fun n h0 h1 => by rw [wrap_u64]; omega) 32 (by decide) x h0 (by omega)
theorem mul64 (a b : Int) (ha0 : 0 ≤ a) (ha : a < 18446744073709551616) (hb0 : 0 ≤ b) (hb : b < 18446744073709551616) :
    bits_Mul64.f a b = some (a * b / 18446744073709551616, a * b % 18446744073709551616) := by
  unfold bits_Mul64.f
  rw [and32 a ha0 ha, and32 b hb0 hb]
  simp only [wrap_u64]
  have q : ∀ x y : Int, 0 ≤ x → x ≤ 4294967295 → 0 ≤ y → y ≤ 4294967295 → 0 ≤ x * y ∧ x * y ≤ 18446744065119617025 := by
    intro x y h1 h2 h3 h4
    exact ⟨Int.mul_nonneg h1 h3, Int.mul_le_mul h2 h4 h3 (by omega)⟩
  have e : a * b = (a / 4294967296) * (b / 4294967296) * 18446744073709551616 + ((a / 4294967296) * (b % 4294967296) + (a % 4294967296) * (b / 4294967296)) * 4294967296 + (a % 4294967296) * (b % 4294967296) := by
    have h1 : a = (a / 4294967296) * 4294967296 + a % 4294967296 := by omega
    have h2 : b = (b / 4294967296) * 4294967296 + b % 4294967296 := by omega
    generalize a / 4294967296 = a1 at *
    generalize a % 4294967296 = a0 at *
    generalize b / 4294967296 = b1 at *
    generalize b % 4294967296 = b0 at *
    rw [h1, h2]
    simp only [Int.add_mul, Int.mul_add]
    have e1 : a1 * 4294967296 * (b1 * 4294967296) = a1 * b1 * 18446744073709551616 := by
      rw [Int.mul_assoc, Int.mul_left_comm 4294967296 b1 4294967296, ← Int.mul_assoc]; rfl
    have e2 : a1 * 4294967296 * b0 = a1 * b0 * 4294967296 := by rw [Int.mul_right_comm]
    have e3 : a0 * (b1 * 4294967296) = a0 * b1 * 4294967296 := by rw [Int.mul_assoc]
    omega
  have q1 := q (a / 4294967296) (b / 4294967296) (by omega) (by omega) (by omega) (by omega)
  have q2 := q (a / 4294967296) (b % 4294967296) (by omega) (by omega) (by omega) (by omega)
  have q3 := q (a % 4294967296) (b / 4294967296) (by omega) (by omega) (by omega) (by omega)
  have q4 := q (a % 4294967296) (b % 4294967296) (by omega) (by omega) (by omega) (by omega)
  rw [e]
  generalize (a / 4294967296) * (b / 4294967296) = p11 at *
  generalize (a / 4294967296) * (b % 4294967296) = p10 at *
  generalize (a % 4294967296) * (b / 4294967296) = p01 at *
  generalize (a % 4294967296) * (b % 4294967296) = p00 at *
  have w0 : p00 % 18446744073709551616 = p00 := by omega
  have w1 : p10 % 18446744073709551616 = p10 := by omega
  have w2 : p01 % 18446744073709551616 = p01 := by omega
  have w3 : p11 % 18446744073709551616 = p11 := by omega
  have w4 : (p10 + p00 / 4294967296) % 18446744073709551616 = p10 + p00 / 4294967296 := by omega
  rw [w0, w1, w2, w3, w4, and32 _ (by omega) (by omega)]
  congr 1
  refine Prod.ext ?_ ?_
  · simp only; omega
  · rfl
theorem size_eq (a : Int) (h0 : -9223372036854775808 ≤ a) (h1 : a ≤ 9223372036854775807) : belvedereref1_size.f a = some (if a < 0 then -a else a) := by
  unfold belvedereref1_size.f
  simp only [wrap_u64]
  split
  · congr 1; unfold wrap64; omega
  · congr 1; omega
theorem times_wd (a b : Int) (a0 : -9223372036854775808 ≤ a) (a1 : a ≤ 9223372036854775807) (b0 : -9223372036854775808 ≤ b) (b1 : b ≤ 9223372036854775807) :
    belvedereref1_times.f a b = some ((wd (a * b)).f0, (wd (a * b)).f1, (wd (a * b)).f2) := by
  unfold belvedereref1_times.f
  rw [size_eq a a0 a1, size_eq b b0 b1]
  simp only [Option.bind_some]
  have hp : ∀ x y : Int, 0 ≤ x → x ≤ 9223372036854775808 → 0 ≤ y → y ≤ 9223372036854775808 → (wd (x * y)).f0 = 0 ∧ (wd (x * y)).f1 = x * y / 18446744073709551616 ∧ (wd (x * y)).f2 = x * y % 18446744073709551616 := by
    intro x y h1 h2 h3 h4
    have q1 := Int.mul_nonneg h1 h3
    have q2 : x * y ≤ 9223372036854775808 * 9223372036854775808 := Int.mul_le_mul h2 h4 h3 (by omega)
    generalize x * y = p at *
    refine ⟨?_, ?_, ?_⟩
    · show p / 18446744073709551616 / 18446744073709551616 % 18446744073709551616 = 0
      omega
    · show p / 18446744073709551616 % 18446744073709551616 = _
      omega
    · rfl
  have step : ∀ x y : Int, 0 ≤ x → x ≤ 9223372036854775808 → 0 ≤ y → y ≤ 9223372036854775808 → ∀ c : Bool, ((bits_Mul64.f x y).bind fun bt => if c = true then ((belvedereref1_minus.f 0 bt.1 bt.2).bind fun u => some (u.1, u.2.1, u.2.2)) else some (0, bt.1, bt.2)) = some (if c = true then ((wd (-(x * y))).f0, (wd (-(x * y))).f1, (wd (-(x * y))).f2) else ((wd (x * y)).f0, (wd (x * y)).f1, (wd (x * y)).f2)) := by
    intro x y h1 h2 h3 h4 c
    rw [mul64 x y h1 (by omega) h3 (by omega)]
    obtain ⟨e0, e1, e2⟩ := hp x y h1 h2 h3 h4
    simp only [Option.bind_some]
    cases c with
    | true =>
      simp only [if_true]
      rw [← e1, ← e2]
      have h := minus_wd (x * y)
      rw [e0] at h
      rw [h]
      rfl
    | false =>
      simp only [Bool.false_eq_true, if_false]
      rw [e0, e1, e2]
  by_cases ha : a < 0
  · by_cases hb : b < 0
    · rw [if_pos ha, if_pos hb, step (-a) (-b) (by omega) (by omega) (by omega) (by omega)]
      simp [ha, hb, Int.neg_mul_neg]
    · rw [if_pos ha, if_neg hb, step (-a) b (by omega) (by omega) (by omega) (by omega)]
      simp [ha, hb, Int.neg_mul]
  · by_cases hb : b < 0
    · rw [if_neg ha, if_pos hb, step a (-b) (by omega) (by omega) (by omega) (by omega)]
      simp [ha, hb, Int.mul_neg]
    · rw [if_neg ha, if_neg hb, step a b (by omega) (by omega) (by omega) (by omega)]
      simp [ha, hb]
/-- Is it an int64? -/
def fits (n : Int) : Prop := -9223372036854775808 ≤ n ∧ n ≤ 9223372036854775807
instance (n : Int) : Decidable (fits n) := inferInstanceAs (Decidable (_ ∧ _))
theorem narrow_wd (n : Int) (h0 : -1569275433846670190958947355801916604025588861116008628224 ≤ n) (h1 : n < 1569275433846670190958947355801916604025588861116008628224) : Ev (fun k => belvedereref1_narrow.f k (wd n).f0 (wd n).f1 (wd n).f2) (if fits n then (n, true) else (0, false)) := by
  refine ⟨1, fun k hk => ?_⟩
  obtain ⟨m, rfl⟩ : ∃ m, k = m + 1 := ⟨k - 1, by omega⟩
  unfold belvedereref1_narrow.f
  simp only [belvedereref1_narrow.j0]
  by_cases c1 : fits n
  · rw [if_pos c1]
    unfold fits at c1
    unfold wd
    simp only
    by_cases c2 : 0 ≤ n
    · rw [if_pos (by omega), if_pos (by omega), if_pos (by simp; omega)]
      congr 1
      refine Prod.ext ?_ rfl
      simp only; unfold wrap64; omega
    · rw [if_neg (by omega), if_neg (by simp), if_pos (by omega), if_pos (by omega), if_pos (by omega)]
      congr 1
      refine Prod.ext ?_ rfl
      simp only; unfold wrap64; omega
  · rw [if_neg c1]
    unfold fits at c1
    unfold wd
    simp only
    by_cases c2 : n / 18446744073709551616 / 18446744073709551616 % 18446744073709551616 = 0
    · rw [if_pos c2]
      by_cases c3 : n / 18446744073709551616 % 18446744073709551616 = 0
      · rw [if_pos c3, if_neg (by simp; omega)]
        rw [if_neg (by omega)]
      · rw [if_neg c3, if_neg (by simp), if_neg (by omega)]
    · rw [if_neg c2, if_neg (by simp)]
      by_cases c3 : n / 18446744073709551616 / 18446744073709551616 % 18446744073709551616 = 18446744073709551615
      · rw [if_pos c3]
        by_cases c4 : n / 18446744073709551616 % 18446744073709551616 = 18446744073709551615
        · rw [if_pos c4, if_neg (by omega)]
        · rw [if_neg c4]
      · rw [if_neg c3]
end Go.Proofs.Ythegdcodjhbonaa.ThA
