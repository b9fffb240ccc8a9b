/-
  Seat a: a share of a count.
  No condition.
-/
import Derived.Test.YtioclaoooghllaaGreatDoorTc
import Derived.Deep.QuietTactic
import Derived.BigQuiet
import Derived.Lib.ItoaNum
namespace Go.Proofs
open Go.RowKit Go.Shelf
namespace Tryz
theorem div64_small (l y : Nat) (hl : l < 18446744073709551616) (h0 : 0 < y) (hy : y < 18446744073709551616) (w : World) :
    Calls Tryz.prog 31 #[.int .u64 0, .int .u64 l, .int .u64 y] w fun e w' => e = .returned (.tuple #[.int .u64 ((l / y : Nat) : Int), .int .u64 ((l % y : Nat) : Int)]) ∧ ∃ n, w' = w.drewN n := by
  have hw : IntKind.u64.wrap ((l : Int) / (y : Int)) = ((l / y : Nat) : Int) := by rw [← Int.natCast_ediv]; exact wrapN _ (Nat.lt_of_le_of_lt (Nat.div_le_self _ _) hl)
  have HW := Lib.hid hw
  clear hw
  go_enter Tryz.func31, Tryz.ntmps31
  go_wp2
  go_quiet (fail)
  go_wp2
  go_ret2
  exact ⟨ret2_u HW.out (Int.natCast_emod l y).symm, _, rfl⟩

theorem or_add (h s x : Nat) (hx : x < 2 ^ s) (hb : h * 2 ^ s + x < 18446744073709551616) : bits .or .u64 ((h * 2 ^ s : Nat) : Int) (x : Int) = ((h * 2 ^ s + x : Nat) : Int) := by
  rw [bits_or_u64_nat _ _ (by omega) (by omega), ← Nat.shiftLeft_eq, Nat.shiftLeft_add_eq_or_of_lt hx]
theorem mask32 (a : Nat) (ha : a < 18446744073709551616) : bits .and .u64 (a : Int) 4294967295 = ((a % 4294967296 : Nat) : Int) := Mul64.maskN a ha

theorem div64_big (h l y s : Nat) (hs : s ≤ 6) (hh : h ≤ 99) (h0 : 0 < h) (hl : l < 18446744073709551616) (hy : 144115188075855872 ≤ y) (hy3 : y < 18446744073709551616) (hb : 64 - (Lib.bitLen y : Int) = s)
    (hY1 : 9223372036854775808 ≤ y * 2 ^ s) (hY2 : y * 2 ^ s < 18446744073709551616) (w : World) :
    Calls Tryz.prog 31 #[.int .u64 h, .int .u64 l, .int .u64 y] w fun e w' => e = .returned (.tuple #[.int .u64 (((h * 18446744073709551616 + l) / y : Nat) : Int), .int .u64 (((h * 18446744073709551616 + l) % y : Nat) : Int)]) ∧ w = w' := by
  have hp : (0 : Nat) < 2 ^ s := Nat.pow_pos (by omega)
  have hd : (h * 18446744073709551616 + l) / y = (h * 18446744073709551616 + l) * 2 ^ s / (y * 2 ^ s) := (Nat.mul_div_mul_right _ _ hp).symm
  have hm : (h * 18446744073709551616 + l) % y = (h * 18446744073709551616 + l) * 2 ^ s % (y * 2 ^ s) / 2 ^ s := by
    rw [Nat.mul_mod_mul_right, Nat.mul_div_cancel _ hp]
  rw [hd, hm]
  clear hd hm
  have key : ∀ L U : Nat, L = l * 2 ^ s % 18446744073709551616 → U = h * 2 ^ s + l * 2 ^ s / 18446744073709551616 → IntKind.u64.wrap ((y : Int) * 2 ^ s) = ((y * 2 ^ s : Nat) : Int) →
      bits .or .u64 (IntKind.u64.wrap ((h : Int) * 2 ^ s)) ((l : Int) / 2 ^ (64 - s)) = (U : Int) → IntKind.u64.wrap ((l : Int) * 2 ^ s) = (L : Int) → U < 10000 →
      (h * 18446744073709551616 + l) * 2 ^ s = 18446744073709551616 * U + L →
      Calls Tryz.prog 31 #[.int .u64 h, .int .u64 l, .int .u64 y] w fun e w' => e = .returned (.tuple #[.int .u64 (((h * 18446744073709551616 + l) * 2 ^ s / (y * 2 ^ s) : Nat) : Int), .int .u64 (((h * 18446744073709551616 + l) * 2 ^ s % (y * 2 ^ s) / 2 ^ s : Nat) : Int)]) ∧ w = w' := by
    intro L U hL hU eY eU eL hU2 hN
    have hL2 : L < 18446744073709551616 := by rw [hL]; exact Nat.mod_lt _ (by omega)
    clear hL hU
    generalize y * 2 ^ s = Y at *
    generalize (h * 18446744073709551616 + l) * 2 ^ s = N at *
    exact div64_norm h l y s Y U L (Y / 4294967296) (Y % 4294967296) (L / 4294967296) (L % 4294967296) (4294967296 * U + L / 4294967296) N (by omega) h0 hl hs hy3 hb eY (by omega) (mask32 _ hY2) eU eL (by omega) (mask32 _ hL2) hY1 hY2 (by omega) (by omega) (by omega) (by omega) hU2 rfl (by omega) w
  have hs' : s = 0 ∨ s = 1 ∨ s = 2 ∨ s = 3 ∨ s = 4 ∨ s = 5 ∨ s = 6 := by omega
  refine key _ _ rfl rfl ?_ ?_ ?_ ?_ ?_
  · rw [show ((y : Int) * 2 ^ s) = ((y * 2 ^ s : Nat) : Int) by simp, wrapN _ hY2]
  · have h1 : h * 2 ^ s < 18446744073709551616 := by
      have : h * 2 ^ s ≤ 99 * 64 := Nat.mul_le_mul hh (Nat.pow_le_pow_right (by omega) hs)
      omega
    have e1 : ((l : Int) / 2 ^ (64 - s)) = ((l * 2 ^ s / 18446744073709551616 : Nat) : Int) := by
      rcases hs' with rfl | rfl | rfl | rfl | rfl | rfl | rfl <;> simp <;> omega
    rw [show ((h : Int) * 2 ^ s) = ((h * 2 ^ s : Nat) : Int) by simp, wrapN _ h1, e1]
    have h2 : l * 2 ^ s / 18446744073709551616 < 2 ^ s := (Nat.div_lt_iff_lt_mul (by omega)).2 (by rw [Nat.mul_comm]; exact (Nat.mul_lt_mul_left hp).2 hl)
    exact or_add h s _ h2 (by rcases hs' with rfl | rfl | rfl | rfl | rfl | rfl | rfl <;> omega)
  · rw [show ((l : Int) * 2 ^ s) = ((l * 2 ^ s : Nat) : Int) by simp]
    exact Mul64.wrapM _
  · rcases hs' with rfl | rfl | rfl | rfl | rfl | rfl | rfl <;> omega
  · rcases hs' with rfl | rfl | rfl | rfl | rfl | rfl | rfl <;> omega

theorem bitLen_bounds (y : Nat) (h0 : 0 < y) (hy : y < 18446744073709551616) : 1 ≤ Lib.bitLen y ∧ 2 ^ (Lib.bitLen y - 1) ≤ y ∧ y < 2 ^ Lib.bitLen y := Lib.bitLenAux_bounds 64 y hy (by omega)

theorem div64 (h l y : Nat) (hh : h ≤ 99) (hl : l < 18446744073709551616) (h0 : 0 < y) (hy : y < 18446744073709551616) (hb : h = 0 ∨ 144115188075855872 ≤ y) (w : World) :
    Calls Tryz.prog 31 #[.int .u64 h, .int .u64 l, .int .u64 y] w fun e w' => e = .returned (.tuple #[.int .u64 (((h * 18446744073709551616 + l) / y : Nat) : Int), .int .u64 (((h * 18446744073709551616 + l) % y : Nat) : Int)]) ∧ ∃ n, w' = w.drewN n := by
  by_cases hz : h = 0
  · subst hz
    simp only [Nat.zero_mul, Nat.zero_add]
    exact div64_small l y hl h0 hy w
  · have hb : 144115188075855872 ≤ y := by omega
    obtain ⟨b1, b2, b3⟩ := bitLen_bounds y h0 hy
    have b4 := bitLen_le64 y hy
    have b5 : 58 ≤ Lib.bitLen y := by
      rcases Nat.lt_or_ge (Lib.bitLen y) 58 with h | h
      · have : 2 ^ Lib.bitLen y ≤ 2 ^ 57 := Nat.pow_le_pow_right (by omega) (by omega)
        omega
      · exact h
    refine (div64_big h l y (64 - Lib.bitLen y) (by omega) hh (by omega) hl hb hy (by omega) ?_ ?_ w).mono fun e w' h => ⟨h.1, 0, h.2.symm⟩
    · have : 2 ^ (Lib.bitLen y - 1) * 2 ^ (64 - Lib.bitLen y) ≤ y * 2 ^ (64 - Lib.bitLen y) := Nat.mul_le_mul_right _ b2
      rw [← Nat.pow_add, show Lib.bitLen y - 1 + (64 - Lib.bitLen y) = 63 by omega] at this
      exact this
    · have : y * 2 ^ (64 - Lib.bitLen y) < 2 ^ Lib.bitLen y * 2 ^ (64 - Lib.bitLen y) := (Nat.mul_lt_mul_right (Nat.pow_pos (by omega))).2 b3
      rw [← Nat.pow_add, show Lib.bitLen y + (64 - Lib.bitLen y) = 64 by omega] at this
      exact this

def needN (c s f : Nat) : Nat := if f ≤ s then c else (c * s + (f - 1)) / f
theorem need_up (m f : Nat) (h0 : 0 < f) : m / f + (if 0 < m % f then 1 else 0) = (m + (f - 1)) / f := by
  have e := Nat.div_add_mod m f
  have l := Nat.mod_lt m h0
  by_cases h : 0 < m % f
  · rw [if_pos h]
    symm
    rw [Nat.div_eq_of_lt_le]
    · rw [Nat.add_mul, Nat.mul_comm]; omega
    · rw [Nat.add_mul, Nat.add_mul, Nat.mul_comm]; omega
  · rw [if_neg h]
    symm
    rw [Nat.div_eq_of_lt_le]
    · rw [Nat.add_zero, Nat.mul_comm]; omega
    · rw [Nat.add_zero, Nat.add_mul, Nat.mul_comm]; omega
theorem need (c s f : Nat) (hc : c ≤ 100) (hs : s < 18446744073709551616) (h0 : 0 < f) (hf : f < 18446744073709551616) (w : World) :
    Calls Tryz.prog 22 #[.int .u64 c, .int .u64 s, .int .u64 f] w fun e w' => e = .returned (.int .u64 (needN c s f : Nat)) ∧ ∃ n, w' = w.drewN n := by
  by_cases hfs : f ≤ s
  · have hn : needN c s f = c := if_pos hfs
    rw [hn]
    go_enter Tryz.func22, Tryz.ntmps22
    go_wp2
    go_ret
    exact ⟨rfl, 0, rfl⟩
  · have hn : needN c s f = (c * s + (f - 1)) / f := if_neg hfs
    rw [hn, ← need_up _ _ h0]
    have hcs : c * s < 100 * 18446744073709551616 := mul_bd c s _ hc hs
    have hcf : c * s ≤ 100 * f := Nat.mul_le_mul hc (by omega)
    obtain ⟨m, hm⟩ : ∃ m, m = c * s := ⟨_, rfl⟩
    have hq : m / f ≤ 100 := by rw [hm]; exact Nat.le_trans (Nat.div_le_div_right hcf) (by rw [Nat.mul_div_cancel _ h0]; exact Nat.le_refl _)
    have hD := div64 (m / 18446744073709551616) (m % 18446744073709551616) f (by omega) (by omega) h0 hf (by omega)
    have e1 : m / 18446744073709551616 * 18446744073709551616 + m % 18446744073709551616 = m := by omega
    rw [e1] at hD
    have hM := mul64 c s (by omega) hs
    rw [← hm] at hM ⊢
    have hml : m % f < f := Nat.mod_lt _ h0
    obtain ⟨q, hq'⟩ : ∃ q, q = m / f := ⟨_, rfl⟩
    obtain ⟨r, hr'⟩ : ∃ r, r = m % f := ⟨_, rfl⟩
    rw [← hq'] at hD hq ⊢
    rw [← hr'] at hD hml ⊢
    clear hq' hr' hm e1 hcs hcf hn
    go_enter Tryz.func22, Tryz.ntmps22
    by_cases hr : 0 < r
    · rw [if_pos hr]
      have hr' : (0 : Int) < (r : Int) := by omega
      go_wp2_with (first | (go_at_call 30; refine (hM _).mono ?_; rintro e w' ⟨rfl, rfl⟩) | (go_at_call 31; refine (hD _).mono ?_; rintro e w' ⟨rfl, n, rfl⟩))
      go_ret
      exact ⟨ret_u (by omega), _, rfl⟩
    · obtain rfl : r = 0 := by omega
      rw [if_neg hr]
      go_wp2_with (first | (go_at_call 30; refine (hM _).mono ?_; rintro e w' ⟨rfl, rfl⟩) | (go_at_call 31; refine (hD _).mono ?_; rintro e w' ⟨rfl, n, rfl⟩))
      go_ret
      exact ⟨ret_u (by omega), _, rfl⟩
end Tryz
end Go.Proofs
