/-
  Seat a: shares.
  No condition.
-/
import Derived.Test.YtioclaoooghllaaGreatDoorTa
import Derived.Outline
namespace Go.Proofs
open Go.RowKit Go.Shelf
namespace Tryz
theorem divN (a : Nat) : (a : Int) / 4294967296 = ((a / 4294967296 : Nat) : Int) := by omega
theorem modN (a : Nat) : (a : Int) % 4294967296 = ((a % 4294967296 : Nat) : Int) := by omega
theorem mulN (a b : Nat) : (a : Int) * (b : Int) = ((a * b : Nat) : Int) := (Int.natCast_mul a b).symm
theorem addN (a b : Nat) : (a : Int) + (b : Int) = ((a + b : Nat) : Int) := (Int.natCast_add a b).symm
theorem wrapN (a : Nat) (ha : a < 18446744073709551616) : IntKind.u64.wrap (a : Int) = (a : Int) := by rw [IntKind.wrap_u64]; omega
theorem mul_bd (n a k : Nat) (hn : n ≤ 100) (ha : a < k) : n * a < 100 * k := Nat.lt_of_le_of_lt (Nat.mul_le_mul hn (Nat.le_refl a)) (by omega)

theorem tdivN (a : Nat) : ((a : Int)).tdiv 4294967296 = ((a / 4294967296 : Nat) : Int) := by rw [Int.tdiv_eq_ediv_of_nonneg (by omega)]; omega
theorem tmodN (a : Nat) : ((a : Int)).tmod 4294967296 = ((a % 4294967296 : Nat) : Int) := by rw [Int.tmod_eq_emod_of_nonneg (by omega)]; omega
theorem ret_u {a b : Int} (h : a = b) : Ending.returned (.int .u64 a) = .returned (.int .u64 b) := by rw [h]
theorem ret_bool {a b : Bool} (h : a = b) : Ending.returned (.bool a) = .returned (.bool b) := by rw [h]

set_option maxHeartbeats 1000000 in
theorem enough (n f m s : Nat) (hn : n ≤ 100) (hm : m ≤ 100) (hf : f < 18446744073709551616) (hs : s < 18446744073709551616) (w : World) :
    Calls Tryz.prog 23 #[.int .u64 n, .int .u64 f, .int .u64 m, .int .u64 s] w fun e w' => e = .returned (.bool (decide (m * s ≤ n * f))) ∧ w = w' := by
  have hA := mul_bd n (f / 4294967296) 4294967296 hn (by omega)
  have hC := mul_bd n (f % 4294967296) 4294967296 hn (by omega)
  have hB := mul_bd m (s / 4294967296) 4294967296 hm (by omega)
  have hD := mul_bd m (s % 4294967296) 4294967296 hm (by omega)
  have hX : n * f = 4294967296 * (n * (f / 4294967296)) + n * (f % 4294967296) := by rw [Nat.mul_left_comm, ← Nat.mul_add, Nat.div_add_mod]
  have hY : m * s = 4294967296 * (m * (s / 4294967296)) + m * (s % 4294967296) := by rw [Nat.mul_left_comm, ← Nat.mul_add, Nat.div_add_mod]
  have HX := Lib.hid hX
  have HY := Lib.hid hY
  clear hX hY
  have a1 := wrapN (n * (f / 4294967296)) (by omega)
  have a2 := wrapN (n * (f % 4294967296)) (by omega)
  have a3 := wrapN (m * (s / 4294967296)) (by omega)
  have a4 := wrapN (m * (s % 4294967296)) (by omega)
  have a5 := wrapN (n * (f % 4294967296) / 4294967296) (by omega)
  have a6 := wrapN (m * (s % 4294967296) / 4294967296) (by omega)
  have a7 := wrapN (n * (f / 4294967296) + n * (f % 4294967296) / 4294967296) (by omega)
  have a8 := wrapN (m * (s / 4294967296) + m * (s % 4294967296) / 4294967296) (by omega)
  have H := Lib.hid (And.intro a1 (And.intro a2 (And.intro a3 (And.intro a4 (And.intro a5 (And.intro a6 (And.intro a7 a8)))))))
  clear a1 a2 a3 a4 a5 a6 a7 a8
  generalize hr : decide (m * s ≤ n * f) = r
  have HR := Lib.hid hr
  clear hr
  go_enter Tryz.func23, Tryz.ntmps23
  go_wp2
  all_goals go_ret
  all_goals refine ⟨ret_bool ?_, rfl⟩
  all_goals (obtain ⟨a1, a2, a3, a4, a5, a6, a7, a8⟩ := H.out; rw [← HR.out]; rw [HX.out, HY.out])
  all_goals simp only [divN, modN, mulN, a1, a2, a3, a4, tdivN, tmodN, addN, a5, a6, a7, a8] at *
  all_goals first | exact decide_eq_decide.2 (by omega) | exact (decide_eq_true (by omega)).symm
end Tryz
end Go.Proofs
