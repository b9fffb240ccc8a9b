/-
  Seat a: division.
  No condition.
-/
import Derived.Test.YtioclaoooghllaaGreatDoorTb
import Derived.BigGuardPart
namespace Go.Proofs
open Go.RowKit Go.Shelf
namespace Tryz
theorem ret2_u {a b c d : Int} (h1 : a = c) (h2 : b = d) : Ending.returned (.tuple #[.int .u64 a, .int .u64 b]) = .returned (.tuple #[.int .u64 c, .int .u64 d]) := by rw [h1, h2]
theorem shr_cast (N Y s : Nat) : (N : Int) % (Y : Int) / 2 ^ s = ((N % Y / 2 ^ s : Nat) : Int) := by simp [Int.natCast_ediv, Int.natCast_emod, Int.natCast_pow]
theorem q_of {N Y q : Nat} (h0 : 0 < Y) (h1 : N / Y ≤ q) (h2 : q * Y ≤ N) : q = N / Y ∧ N - q * Y = N % Y := by
  have h3 : q ≤ N / Y := (Nat.le_div_iff_mul_le h0).2 h2
  obtain rfl : q = N / Y := by omega
  refine ⟨rfl, ?_⟩
  have := Nat.div_add_mod N Y
  rw [Nat.mul_comm] at this
  omega
theorem q_stop {N Y V q r a1 a0 b0 : Nat} (h0 : 0 < Y) (hY : Y = 4294967296 * a1 + a0) (hN : N = 4294967296 * V + b0) (hV : q * a1 + r = V) (h1 : N / Y ≤ q) (h2 : q * a0 ≤ 4294967296 * r + b0) :
    q = N / Y ∧ N - q * Y = N % Y := by
  refine q_of h0 h1 ?_
  have e : q * Y = 4294967296 * (q * a1) + q * a0 := by rw [hY, Nat.mul_add, Nat.mul_left_comm]
  omega
theorem q_down {N Y V q r a1 a0 b0 : Nat} (h0 : 0 < Y) (hY : Y = 4294967296 * a1 + a0) (hN : N = 4294967296 * V + b0) (hV : q * a1 + r = V) (h2 : 4294967296 * r + b0 < q * a0) : N / Y ≤ q - 1 := by
  have e : q * Y = 4294967296 * (q * a1) + q * a0 := by rw [hY, Nat.mul_add, Nat.mul_left_comm]
  have : N / Y < q := (Nat.div_lt_iff_lt_mul h0).2 (by omega)
  omega
theorem sub_one_mul (q a : Nat) (h : 0 < q) : (q - 1) * a + a = q * a := by
  obtain ⟨k, rfl⟩ : ∃ k, q = k + 1 := ⟨q - 1, by omega⟩
  simp [Nat.succ_mul]
theorem q_start {N Y V a1 a0 b0 : Nat} (h1 : 0 < a1) (hY : Y = 4294967296 * a1 + a0) (hN : N = 4294967296 * V + b0) (hb : b0 < 4294967296) : N / Y ≤ V / a1 := by
  have h : N / Y ≤ N / (4294967296 * a1) := Nat.div_le_div_left (by omega) (Nat.mul_pos (by omega) h1)
  rw [← Nat.div_div_eq_div_mul] at h
  have : N / 4294967296 = V := by omega
  rwa [this] at h

theorem fin_wrap {N Y V q b0 : Nat} (h0 : 0 < Y) (hN : N = 4294967296 * V + b0) (h1 : q = N / Y) (h2 : N - q * Y = N % Y) (hY : Y < 18446744073709551616) :
    IntKind.u64.wrap (IntKind.u64.wrap (IntKind.u64.wrap ((V : Int) * 4294967296) + b0) - IntKind.u64.wrap ((q : Int) * Y)) = ((N % Y : Nat) : Int) := by
  have := Nat.mod_lt N h0
  have hle : q * Y ≤ N := by rw [h1]; exact Nat.div_mul_le_self N Y
  rw [mulN q Y, IntKind.wrap_u64, IntKind.wrap_u64, IntKind.wrap_u64, IntKind.wrap_u64]
  omega

set_option maxRecDepth 100000 in
set_option maxHeartbeats 1000000 in
theorem div64_norm (h l y s Y U L a1 a0 b1 b0 V N : Nat) (hh : h < y) (h0 : 0 < h) (hl : l < 18446744073709551616) (hs : s ≤ 6) (hy3 : y < 18446744073709551616) (hb : 64 - (Lib.bitLen y : Int) = s)
    (eY : IntKind.u64.wrap ((y : Int) * 2 ^ s) = Y) (eA1 : (Y : Int) / 4294967296 = a1) (eA0 : bits .and .u64 (Y : Int) 4294967295 = a0) (eU : bits .or .u64 (IntKind.u64.wrap ((h : Int) * 2 ^ s)) ((l : Int) / 2 ^ (64 - s)) = U)
    (eL : IntKind.u64.wrap ((l : Int) * 2 ^ s) = L) (eB1 : (L : Int) / 4294967296 = b1) (eB0 : bits .and .u64 (L : Int) 4294967295 = b0)
    (hY1 : 9223372036854775808 ≤ Y) (hY2 : Y < 18446744073709551616) (hY : Y = 4294967296 * a1 + a0) (ha0 : a0 < 4294967296) (hb0 : b0 < 4294967296) (hb1 : b1 < 4294967296) (hU : U < 10000) (hV : V = 4294967296 * U + b1) (hN : N = 4294967296 * V + b0) (w : World) :
    Calls Tryz.prog 31 #[.int .u64 h, .int .u64 l, .int .u64 y] w fun e w' => e = .returned (.tuple #[.int .u64 ((N / Y : Nat) : Int), .int .u64 ((N % Y / 2 ^ s : Nat) : Int)]) ∧ w = w' := by
  have lead : ∀ w : World, Calls Tryz.prog 44 #[.int .u64 y] w fun e w' => e = .returned (.int .i64 (s : Int)) ∧ w = w' := fun w => by
    have := lead64 y w hy3
    rw [hb] at this
    exact this
  have ha1 : 2147483648 ≤ a1 := by omega
  have ha2 : a1 < 4294967296 := by omega
  have eQ : ((U : Int)).tdiv (a1 : Int) = 0 := by rw [Int.tdiv_eq_ediv_of_nonneg (by omega)]; exact Int.ediv_eq_zero_of_lt (by omega) (by omega)
  have HY := Lib.hid hY
  have HV := Lib.hid hV
  have HN := Lib.hid hN
  clear hb hY hV hN
  go_enter Tryz.func31, Tryz.ntmps31
  go_wp2_with (go_at_call 44; refine (lead _).mono ?_; rintro e w' ⟨rfl, rfl⟩)
  have eV : (U : Int) * 4294967296 + (b1 : Int) = (V : Int) := by have := HV.out; omega
  have hVb : V < 42953967927296 := by have := HV.out; omega
  obtain ⟨q0, hq0⟩ : ∃ q, q = V / a1 := ⟨_, rfl⟩
  obtain ⟨r0, hr0⟩ : ∃ r, r = V % a1 := ⟨_, rfl⟩
  have eQ : (V : Int) / a1 = (q0 : Int) := by rw [hq0]; rfl
  have hqr : q0 * a1 + r0 = V := by rw [hq0, hr0, Nat.mul_comm]; exact Nat.div_add_mod V a1
  have hr1 : r0 < a1 := by rw [hr0]; exact Nat.mod_lt _ (by omega)
  have eR : IntKind.u64.wrap ((V : Int) - IntKind.u64.wrap ((q0 : Int) * a1)) = (r0 : Int) := by
    rw [mulN, wrapN _ (by omega), IntKind.wrap_u64]; omega
  have hq1 : q0 < 21000 := by rw [hq0]; exact (Nat.div_lt_iff_lt_mul (by omega)).2 (by omega)
  have HQ := Lib.hid (And.intro hq0 hqr)
  clear hq0 hqr hr0
  refine wp_loop_rounds 1 ?_
  rw [rounds_succ]
  go_wp2
  go_loop [18, 16] (fun q r => ∃ a b : Nat, q = .int .u64 (a : Int) ∧ r = .int .u64 (b : Int) ∧ a * a1 + b = V ∧ N / Y ≤ a ∧ a < 21000 ∧ b < 4294967296) (fun q _ => (intOf q).toNat)
  case atStart =>
    refine ⟨q0, r0, rfl, rfl, HQ.out.2, ?_, hq1, by omega⟩
    rw [HQ.out.1]
    exact q_start (by omega) HY.out HN.out hb0
  case round =>
    obtain ⟨a, b, rfl, rfl, hab, hNY, ha, hb⟩ := hrel
    clear lead eY eA1 eA0 eU eL eB1 eB0 eV eQ eR hVb hr1 hq1 HQ HV
    obtain ⟨p, hp⟩ : ∃ p, p = a * a0 := ⟨_, rfl⟩
    have hpb : p < 21000 * 4294967296 := by rw [hp]; exact Nat.lt_of_le_of_lt (Nat.mul_le_mul (Nat.le_of_lt ha) (Nat.le_refl _)) (by omega)
    have eP : IntKind.u64.wrap ((a : Int) * (a0 : Int)) = (p : Int) := by rw [mulN, ← hp, wrapN _ (by omega)]
    have HP := Lib.hid hp
    have HAB := Lib.hid hab
    have HNY := Lib.hid hNY
    have ha' : (a : Int) < 4294967296 := by omega
    have HA := Lib.hid ha
    have h32 : decide ((4294967296 : Int) ≤ (a : Int)) = false := by simp; omega
    have h33 : ¬ (4294967296 : Nat) ≤ a := by omega
    clear hp hab hNY ha
    by_cases hc : 4294967296 * b + b0 < p
    · have ht : decide (4294967296 * (b : Int) + (b0 : Int) < (p : Int)) = true := by simp; omega
      have hd := q_down (by omega) HY.out HN.out HAB.out (by rw [← HP.out]; exact hc)
      have hapos : 0 < a := by
        rcases Nat.eq_zero_or_pos a with rfl | h
        · have := HP.out; simp at this; omega
        · exact h
      have hsm := sub_one_mul a a1 hapos
      have HD := Lib.hid hd
      have HS := Lib.hid hsm
      clear hd hsm
      by_cases hr : b + a1 < 4294967296
      · have hu : decide ((4294967296 : Int) ≤ (b : Int) + (a1 : Int)) = false := by simp; omega
        go_wp2
        go_round
        case rel => exact ⟨a - 1, b + a1, by go_num, by go_num, by have := HS.out; have := HAB.out; omega, HD.out, by have := HA.out; omega, hr⟩
        case measure => simp [intOf]; omega
      · have := HP.out
        have hF := q_stop (q := a - 1) (r := b + a1) (a0 := a0) (b0 := b0) (by omega) HY.out HN.out (by have := HS.out; have := HAB.out; omega) HD.out (by
          have h1 : (a - 1) * a0 ≤ 20999 * 4294967296 := Nat.mul_le_mul (by have := HA.out; omega) (by omega)
          omega)
        obtain ⟨c, hc'⟩ : ∃ c, c = a - 1 := ⟨_, rfl⟩
        rw [← hc'] at hF
        have eC : (a : Int) - 1 = (c : Int) := by omega
        have eF := fin_wrap (by omega) HN.out hF.1 hF.2 hY2
        have HF := Lib.hid hF
        clear hF hc' this
        have hu : decide ((4294967296 : Int) ≤ (b : Int) + (a1 : Int)) = true := by simp; omega
        go_wp2
        go_ret2
        exact ⟨ret2_u (congrArg (fun n : Nat => (n : Int)) HF.out.1) (shr_cast N Y s), rfl⟩
    · have ht : decide (4294967296 * (b : Int) + (b0 : Int) < (p : Int)) = false := by simp; omega
      have hF := q_stop (by omega) HY.out HN.out HAB.out HNY.out (by rw [← HP.out]; omega)
      have eF := fin_wrap (by omega) HN.out hF.1 hF.2 hY2
      have HF := Lib.hid hF
      clear hF
      go_wp2
      go_ret2
      exact ⟨ret2_u (congrArg (fun n : Nat => (n : Int)) HF.out.1) (shr_cast N Y s), rfl⟩
end Tryz
end Go.Proofs
