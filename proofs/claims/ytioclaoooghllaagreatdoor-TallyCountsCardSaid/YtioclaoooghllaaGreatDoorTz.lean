/-
  Seat a: both shares agree.
  No condition.
-/
import Derived.Test.YtioclaoooghllaaGreatDoorTf
import Derived.Test.YtioclaoooghllaaGreatDoorTo
namespace Go.Proofs.Tryz
open Go Go.Sx Go.Sm Go.RowKit
theorem sumTo_le (xs : List Nat) : ∀ i, sumTo (cntL xs) (i + 1) = le xs i
  | 0 => by
    simp only [sumTo, cntL, le, Nat.le_zero_eq]
    omega
  | i + 1 => by
    have ih := sumTo_le xs i
    rw [show sumTo (cntL xs) (i + 1 + 1) = sumTo (cntL xs) (i + 1) + cntL xs (i + 1) from rfl, ih]
    clear ih
    unfold le cntL
    induction xs with
    | nil => rfl
    | cons x xs ih =>
      simp only [List.filter_cons]
      by_cases h1 : Lib.bitLen x ≤ i
      · have h2 : Lib.bitLen x ≤ i + 1 := by omega
        have h3 : ¬ Lib.bitLen x = i + 1 := by omega
        simp [h1, h2, h3] at ih ⊢; omega
      · by_cases h3 : Lib.bitLen x = i + 1
        · have hni : ¬ i + 1 ≤ i := by omega
          simp [h3, hni] at ih ⊢; omega
        · have h2 : ¬ Lib.bitLen x ≤ i + 1 := by omega
          simp [h1, h2, h3] at ih ⊢; omega
theorem sumTo_bd (xs : List Nat) (k : Nat) : sumTo (cntL xs) k ≤ xs.length := by
  cases k with
  | zero => simp [sumTo]
  | succ i => rw [sumTo_le]; exact le_le xs i
theorem need_iff (c s f n : Nat) (hf : 0 < f) : needN c s f ≤ n ↔ c * min s f ≤ n * f := by
  unfold needN
  by_cases h : f ≤ s
  · rw [if_pos h, Nat.min_eq_right h]
    exact (Nat.mul_le_mul_right_iff hf).symm
  · rw [if_neg h, Nat.min_eq_left (by omega)]
    rw [← Nat.lt_succ_iff, Nat.div_lt_iff_lt_mul hf, Nat.succ_mul]
    omega
theorem search_congr {p q : Nat → Bool} (h : ∀ i, p i = q i) : search p = search q := by
  have : p = q := funext h
  rw [this]
theorem shares_eq (xs : List Nat) (s f : Nat) (hf : 0 < f) : search (fun i => decide (needN xs.length s f ≤ sumTo (cntL xs) (i + 1))) 65 0 = search (rAtP xs (min s f) f) 65 0 := by
  rw [search_congr fun i => ?_]
  unfold rAtP
  rw [sumTo_le]
  exact decide_eq_decide.2 (need_iff _ _ _ _ hf)
def shareN (xs : List Nat) (s f : Nat) : Nat := if f = 0 ∨ s = 0 then 0 else search (rAtP xs (min s f) f) 65 0
theorem at_zero (A : Array Value) (c s f : Nat) (h0 : A[0]? = some (.int .u64 c)) (hc : 0 < c) (hz : f = 0 ∨ s = 0) (w : World) :
    Calls Tryz.prog 11 #[.agg A, .int .u64 s, .int .u64 f] w fun e w' => e = .returned (.int .i64 0) ∧ Below w.heap.size w w' := by
  have hA' : 0 < A.size := (Array.getElem?_eq_some_iff.1 h0).1
  have h0' : A[0]'hA' = .int .u64 c := (Array.getElem?_eq_some_iff.1 h0).2
  have hc0' : ((c : Int) == 0) = false := by simp; omega
  have hb := (Below.refl w.heap.size w).alloc (Nat.le_refl _) (.cells A 36)
  by_cases hf : f = 0
  · subst hf
    clear hz
    go_enter Tryz.func11, Tryz.ntmps11
    go_wp2
    go_ret
    exact ⟨rfl, hb⟩
  · have hs : s = 0 := by omega
    subst hs
    have hf0' : ((f : Int) == 0) = false := by simp; omega
    clear hz
    go_enter Tryz.func11, Tryz.ntmps11
    go_wp2
    go_ret
    exact ⟨rfl, hb⟩
theorem rat_zero (b cap : Nat) (xs : List Nat) (s f : Nat) (w : World) (hl : xs.length ≤ 100) (hl0 : 0 < xs.length) (hz : f = 0 ∨ s = 0) :
    Calls Tryz.prog 12 #[.slice (some ⟨b, 0, none⟩) xs.length cap, .int .u64 s, .int .u64 f] w fun e w' => e = .returned (.int .i64 0) ∧ w = w' := by
  have hc0' : ((xs.length : Int) == 0) = false := by rw [beq_eq_false_iff_ne]; omega
  by_cases hf : f = 0
  · subst hf
    clear hz
    go_enter Tryz.func12, Tryz.ntmps12
    go_wp2
    go_ret
    exact ⟨rfl, rfl⟩
  · have hs : s = 0 := by omega
    subst hs
    have hf0' : ((f : Int) == 0) = false := by rw [beq_eq_false_iff_ne]; omega
    clear hz
    go_enter Tryz.func12, Tryz.ntmps12
    go_wp2
    go_ret
    exact ⟨rfl, rfl⟩
theorem at_row (xs : List Nat) (s f : Nat) (w : World) (hl : xs.length ≤ 100) (hl0 : 0 < xs.length) (hs : s < 18446744073709551616) (hf : f < 18446744073709551616) :
    Calls Tryz.prog 11 #[rowV (specF xs), .int .u64 s, .int .u64 f] w fun e w' => e = .returned (.int .i64 (shareN xs s f : Nat)) ∧ Below w.heap.size w w' := by
  have h0 : (rowA (specF xs))[0]? = some (.int .u64 (xs.length : Nat)) := rowA_at _ (by omega)
  by_cases hz : f = 0 ∨ s = 0
  · unfold shareN; rw [if_pos hz]
    exact at_zero _ _ s f h0 hl0 hz w
  · unfold shareN; rw [if_neg hz, ← shares_eq xs s f (by omega)]
    exact at_any (rowA (specF xs)) (cntL xs) xs.length s f (rowA_size _) h0 (fun k hk => by
      rw [rowA_at _ (by omega)]
      have e : specF xs (4 + k) = cntL xs k := by
        unfold specF
        rw [if_neg (by omega), if_neg (by omega), if_neg (by omega), if_neg (by omega)]
        congr 1; omega
      rw [e]) hl hs hf hl0 (by omega) (by omega) (fun k _ => Nat.le_trans (sumTo_bd xs k) hl) w
theorem rat_row (b cap : Nat) (xs : List Nat) (s f : Nat) (w : World) (hl : xs.length ≤ 100) (hl0 : 0 < xs.length) (hx : ∀ x ∈ xs, x < 18446744073709551616) (hs : s < 18446744073709551616) (hf : f < 18446744073709551616)
    (hc : ∀ m (h : m < xs.length), w.cell? ⟨b, m, none⟩ = some (.int .u64 (xs[m] : Nat))) :
    Calls Tryz.prog 12 #[.slice (some ⟨b, 0, none⟩) xs.length cap, .int .u64 s, .int .u64 f] w fun e w' => e = .returned (.int .i64 (shareN xs s f : Nat)) ∧ w = w' := by
  by_cases hz : f = 0 ∨ s = 0
  · unfold shareN; rw [if_pos hz]
    exact rat_zero b cap xs s f w hl hl0 hz
  · unfold shareN; rw [if_neg hz]
    exact rat_any b cap xs s f w hl hl0 hx hs hf (by omega) (by omega) hc
end Go.Proofs.Tryz
