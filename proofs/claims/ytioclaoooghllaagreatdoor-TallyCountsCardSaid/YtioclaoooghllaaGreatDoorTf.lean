/-
  Seat a: the document's class of a share.
  No condition.
-/
import Derived.Test.YtioclaoooghllaaGreatDoorTe
namespace Go.Proofs
open Go.RowKit Go.Shelf
namespace Tryz
/-- how many are of class i or below -/
def le (xs : List Nat) (i : Nat) : Nat := (xs.filter fun x => decide (Lib.bitLen x ≤ i)).length
theorem le_le (xs : List Nat) (i : Nat) : le xs i ≤ xs.length := List.length_filter_le _ _
theorem le_snoc (xs : List Nat) (x i : Nat) : le (xs ++ [x]) i = le xs i + if Lib.bitLen x ≤ i then 1 else 0 := by
  unfold le
  rw [List.filter_append]
  by_cases h : Lib.bitLen x ≤ i <;> simp [h]
theorem take_snoc_f {xs : List Nat} {m : Nat} (h : m < xs.length) : xs.take (m + 1) = xs.take m ++ [xs[m]] := by
  rw [List.take_succ_eq_append_getElem h]
def rAtP (xs : List Nat) (s f : Nat) (i : Nat) : Bool := decide (xs.length * s ≤ le xs i * f)

set_option maxRecDepth 20000 in
set_option maxHeartbeats 1000000 in
theorem rat_any (b cap : Nat) (xs : List Nat) (s f : Nat) (w : World) (hl : xs.length ≤ 100) (hl0 : 0 < xs.length) (hx : ∀ x ∈ xs, x < 18446744073709551616) (hs : s < 18446744073709551616) (hf : f < 18446744073709551616) (hf0 : 0 < f) (hs0 : 0 < s)
    (hc : ∀ m (h : m < xs.length), w.cell? ⟨b, m, none⟩ = some (.int .u64 (xs[m] : Nat))) :
    Calls Tryz.prog 12 #[.slice (some ⟨b, 0, none⟩) xs.length cap, .int .u64 s, .int .u64 f] w fun e w' => e = .returned (.int .i64 (search (rAtP xs (min s f) f) 65 0 : Nat)) ∧ w = w' := by
  have hc0' : ((xs.length : Int) == 0) = false := by rw [beq_eq_false_iff_ne]; omega
  have hf0' : ((f : Int) == 0) = false := by rw [beq_eq_false_iff_ne]; omega
  have hs0' : ((s : Int) == 0) = false := by rw [beq_eq_false_iff_ne]; omega
  have hE : ∀ S : Nat, S = min s f → ∀ k w, Calls Tryz.prog 23 #[.int .u64 (le xs k : Nat), .int .u64 f, .int .u64 xs.length, .int .u64 S] w fun e w' => e = .returned (.bool (rAtP xs (min s f) f k)) ∧ w = w' := by
    rintro S rfl k w
    have := le_le xs k
    exact enough (le xs k) f xs.length (min s f) (by omega) hl hf (by omega) w
  have HX := Lib.hid hx
  have HC := Lib.hid hc
  have HE := Lib.hid hE
  clear hx hc hE
  by_cases hsf : f < s
  rotate_left
  have HE2 := Lib.hid (HE.out s (by omega))
  rotate_left
  have HE2 := Lib.hid (HE.out f (by omega))
  all_goals
    have hml : min s f ≤ f := by omega
    go_enter Tryz.func12, Tryz.ntmps12
    go_wp2_with fail
    go_loop [7] (fun i => ∃ k : Nat, k ≤ 65 ∧ i = .int .i64 (k : Int) ∧ search (rAtP xs (min s f) f) 65 0 = search (rAtP xs (min s f) f) (65 - k) k) (fun i => 65 - (intOf i).toNat)
    case atStart => exact ⟨0, by omega, rfl, rfl⟩
    case round =>
      obtain ⟨k, hk, rfl, hse⟩ := hrel
      by_cases hlt : k < 65
      · replace hse := hse.trans (search_step _ hlt)
        have HS := Lib.hid hse
        clear hse
        go_wp2_with fail
        go_loop [8, 32] (fun n i => ∃ m : Nat, m ≤ xs.length ∧ i = .int .i64 (m : Int) ∧ n = .int .u64 (le (xs.take m) k : Nat)) (fun _ i => xs.length - (intOf i).toNat)
        case atStart => exact ⟨0, by omega, rfl, rfl⟩
        case round =>
          obtain ⟨m, hm, rfl, rfl⟩ := hrel
          by_cases hml : m < xs.length
          · have hcm := HC.out m hml
            have hxm := HX.out (xs[m]) (List.getElem_mem hml)
            have hts := le_snoc (xs.take m) xs[m] k
            rw [← take_snoc_f hml] at hts
            have hle := le_le (xs.take m) k
            have hle2 : (xs.take m).length ≤ m := List.length_take_le _ _
            have HT := Lib.hid hts
            obtain ⟨v, hv⟩ : ∃ v, v = xs[m] := ⟨_, rfl⟩
            rw [← hv] at hcm hxm HT
            clear hv hts
            obtain ⟨y, hy⟩ : ∃ y, y = Lib.bitLen v := ⟨_, rfl⟩
            have hcl := fun w => rcls v w hxm
            rw [← hy] at hcl HT
            have HCL := Lib.hid hcl
            clear hcl hy
            by_cases hyk : y ≤ k
            · have hyk' : decide ((y : Int) ≤ (k : Int)) = true := by simp; omega
              go_wp2_with (go_at_call 8; refine (HCL.out _).mono ?_; rintro e w' ⟨rfl, rfl⟩)
              go_round
              case rel => exact ⟨m + 1, by omega, by go_num, by rw [HT.out, if_pos hyk]; go_num⟩
              case measure => simp [intOf]; omega
            · have hyk' : decide ((y : Int) ≤ (k : Int)) = false := by simp; omega
              go_wp2_with (go_at_call 8; refine (HCL.out _).mono ?_; rintro e w' ⟨rfl, rfl⟩)
              go_round
              case rel => exact ⟨m + 1, by omega, by go_num, by rw [HT.out, if_neg hyk]; go_num⟩
              case measure => simp [intOf]; omega
          · obtain rfl : m = xs.length := by omega
            rw [List.take_length]
            cases hp : rAtP xs (min s f) f k with
            | true =>
              have HP := Lib.hid (HE2.out k)
              rw [hp] at HP
              go_wp2_with (go_at_call 23; refine (HP.out _).mono ?_; rintro e w' ⟨rfl, rfl⟩)
              go_ret
              exact ⟨ret_i (by rw [HS.out, if_pos hp]), rfl⟩
            | false =>
              have HP := Lib.hid (HE2.out k)
              rw [hp] at HP
              go_wp2_with (go_at_call 23; refine (HP.out _).mono ?_; rintro e w' ⟨rfl, rfl⟩)
              go_round
              case rel => exact ⟨k + 1, by omega, by go_num, by rw [HS.out, if_neg (by simp [hp])]⟩
              case measure => simp [intOf]; omega
      · obtain rfl : k = 65 := by omega
        have HS := Lib.hid hse
        clear hse
        go_wp2_with fail
        go_ret
        exact ⟨ret_i HS.out.symm, rfl⟩
end Tryz
end Go.Proofs
