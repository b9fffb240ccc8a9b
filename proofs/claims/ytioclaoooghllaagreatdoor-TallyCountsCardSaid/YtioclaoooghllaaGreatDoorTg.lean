/-
  Seat a: two rows together.
  No condition.
-/
import Derived.Test.YtioclaoooghllaaGreatDoorSxW
namespace Go.Proofs.Tryz
open Go Go.Sx Go.RowKit
/-- a row's cells: count, sum, least, greatest, 65 classes -/
def rowC (F : Nat → Nat) : List Value := (List.range 69).map fun i => .int .u64 (F i : Int)
def rowV (F : Nat → Nat) : Value := .agg (rowC F).toArray
def plusF (F G : Nat → Nat) : Nat → Nat :=
  if G 0 = 0 then F else if F 0 = 0 then G else fun i =>
    if i = 2 then (if G 2 < F 2 then G 2 else F 2) else if i = 3 then (if G 3 > F 3 then G 3 else F 3) else (F i + G i) % 18446744073709551616
def plusE (i : Nat) : IE := match i with
  | 2 => .pick (.cmp .lss (.var 71) (.var 2)) (.var 71) (.var 2)
  | 3 => .pick (.cmp .gtr (.var 72) (.var 3)) (.var 72) (.var 3)
  | i => .arith .add .u64 (.var i) (.var (69 + i))
def plusT : Tree AVal :=
  .ite (.cmp .eql (.var 69) (.lit 0)) (.done (.agg (((List.range 69).map fun i => IE.var i).map (.int .u64))))
    (.ite (.cmp .eql (.var 0) (.lit 0)) (.done (.agg (((List.range 69).map fun i => IE.var (69 + i)).map (.int .u64)))) (.done (.agg (((List.range 69).map plusE).map (.int .u64)))))
def plusA : List AVal := [.agg (((List.range 69).map fun i => IE.var i).map (.int .u64)), .agg (((List.range 69).map fun i => IE.var (69 + i)).map (.int .u64))]
theorem plus_run : exec Tryz.prog 6 (primOf .nil) 1000000 (.call (20 : Nat) plusA ⟨.nil, 6⟩ fun v _ => .done v) = plusT := by kernel_rfl
theorem primNil : PrimOk Tryz.prog 6 (primOf .nil) := primOf_ok plain fun f k h => by simp at h
theorem range_map_congr {α : Type} {f g : Nat → α} {n : Nat} (h : ∀ i, i < n → f i = g i) : (List.range n).map f = (List.range n).map g :=
  List.map_congr_left fun i hi => h i (List.mem_range.1 hi)

theorem den_lss (ρ : Env) (x y : IE) {a b : Nat} (hx : x.den ρ = a) (hy : y.den ρ = b) : (IE.pick (.cmp .lss x y) x y).den ρ = ((if a < b then a else b : Nat) : Int) := by
  simp only [IE.den, BE.den, cmpFn, hx, hy]
  by_cases h : a < b
  · simp [h]
  · simp [h]
theorem den_gtr (ρ : Env) (x y : IE) {a b : Nat} (hx : x.den ρ = a) (hy : y.den ρ = b) : (IE.pick (.cmp .gtr x y) x y).den ρ = ((if a > b then a else b : Nat) : Int) := by
  simp only [IE.den, BE.den, cmpFn, hx, hy]
  by_cases h : a > b
  · have : (a : Int) > b := by omega
    simp [h, this]
  · have : ¬ (a : Int) > b := by omega
    simp [h, this]
theorem den_add (ρ : Env) (x y : IE) {a b : Nat} (hx : x.den ρ = a) (hy : y.den ρ = b) : (IE.arith .add .u64 x y).den ρ = (((a + b) % 18446744073709551616 : Nat) : Int) := by
  simp only [IE.den, arithFn, hx, hy]
  simp [IntKind.wrap, IntKind.signed, IntKind.bits]
theorem plus (F G : Nat → Nat) (W : World) : Calls Tryz.prog 20 #[rowV F, rowV G] W fun e w' => e = .returned (rowV (plusF F G)) ∧ Below W.heap.size W w' := by
  let ρ : Env := ⟨fun j => if j < 69 then (F j : Int) else (G (j - 69) : Int), fun _ => false, fun _ => default⟩
  have e1 : ∀ i, i < 69 → (IE.var i).den ρ = (F i : Int) := fun i hi => by simp [IE.den, ρ, hi]
  have e2 : ∀ i, (IE.var (69 + i)).den ρ = (G i : Int) := fun i => by simp only [IE.den, ρ]; rw [if_neg (by omega), Nat.add_sub_cancel_left]
  have hF : ∀ {l : List IE}, l = (List.range 69).map (fun i => IE.var i) → (l.map fun e => Value.int .u64 (e.den ρ)) = rowC F := by
    rintro l rfl
    rw [List.map_map]
    exact range_map_congr fun i hi => by simp only [Function.comp, e1 i hi]
  have hG : ∀ {l : List IE}, l = (List.range 69).map (fun i => IE.var (69 + i)) → (l.map fun e => Value.int .u64 (e.den ρ)) = rowC G := by
    rintro l rfl
    rw [List.map_map]
    exact range_map_congr fun i hi => by simp only [Function.comp, e2 i]
  have hS : G 0 ≠ 0 → F 0 ≠ 0 → (((List.range 69).map plusE).map fun e => Value.int .u64 (e.den ρ)) = rowC (plusF F G) := by
    intro h1 h2
    rw [List.map_map]
    refine range_map_congr fun i hi => ?_
    have d : plusF F G i = if i = 2 then (if G 2 < F 2 then G 2 else F 2) else if i = 3 then (if G 3 > F 3 then G 3 else F 3) else (F i + G i) % 18446744073709551616 := by
      unfold plusF; rw [if_neg h1, if_neg h2]
    simp only [Function.comp]
    rw [d]
    unfold plusE
    split
    · rw [den_lss ρ _ _ (e2 2) (e1 2 (by omega))]; rfl
    · rw [den_gtr ρ _ _ (e2 3) (e1 3 (by omega))]; rfl
    · rename_i h3 h4
      rw [if_neg h3, if_neg h4, den_add ρ _ _ (e1 i hi) (e2 i)]
  have hus : ∀ R, VRels ρ R plusA (#[rowV F, rowV G] : Array Value).toList := fun R => by
    refine VRels.cons (VRel_agg_ints.2 ?_) (VRels.cons (VRel_agg_ints.2 ?_) VRels.nil)
    · rw [hF rfl]; rfl
    · rw [hG rfl]; rfl
  have h2 := calls_of_exec (ρ := ρ) (G := 6) (prim := primOf .nil) (args := plusA) (us := #[rowV F, rowV G]) mixed plain primNil 1000000 Tryz.func20 rfl hus (Q := fun v => ∀ R u, VRel ρ R v u → u = rowV (plusF F G))
  refine (h2 ?_ W).mono ?_
  · rw [plus_run]
    unfold plusT
    refine sat_ite (fun h => ?_) (fun h => sat_ite (fun h2 => ?_) (fun h2 => ?_))
    · have h : G 0 = 0 := by simpa [BE.den, cmpFn, IE.den, ρ] using h
      intro R u hu
      rw [VRel_agg_ints.1 hu, hF rfl]
      unfold plusF; rw [if_pos h]; rfl
    · have h : G 0 ≠ 0 := by simpa [BE.den, cmpFn, IE.den, ρ] using h
      have h2 : F 0 = 0 := by simpa [BE.den, cmpFn, IE.den, ρ] using h2
      intro R u hu
      rw [VRel_agg_ints.1 hu, hG rfl]
      unfold plusF; rw [if_neg h, if_pos h2]; rfl
    · have h : G 0 ≠ 0 := by simpa [BE.den, cmpFn, IE.den, ρ] using h
      have h2 : F 0 ≠ 0 := by simpa [BE.den, cmpFn, IE.den, ρ] using h2
      intro R u hu
      rw [VRel_agg_ints.1 hu, hS h h2]
      rfl
  · rintro e w' ⟨⟨u, R, v, rfl, hv, hr⟩, hb⟩
    exact ⟨by rw [hv R u hr], hb⟩
end Go.Proofs.Tryz
