/-
  Seat a: a key's row.
  No condition.
-/
import Derived.Test.YtioclaoooghllaaGreatDoorTe
import Derived.Test.YtioclaoooghllaaGreatDoorTg
import Derived.Test.YtioclaoooghllaaGreatDoorTh
import Derived.Lib.Hide
import Derived.Outline
import Derived.Deep.WholeRow
namespace Go.Proofs.Tryz
open Go Go.Sx Go.Sm Go.RowKit
theorem rowV_eq (F : Nat → Nat) : rowV F = .agg (rowC F).toArray := rfl
def rowA (F : Nat → Nat) : Array Value := (rowC F).toArray
theorem rowA_size (F : Nat → Nat) : (rowA F).size = 69 := by simp [rowA, rowC]
theorem rowA_at (F : Nat → Nat) {i : Nat} (hi : i < 69) : (rowA F)[i]? = some (.int .u64 (F i : Int)) := by simp [rowA, rowC, hi]
theorem rowA_one (F : Nat → Nat) : (rowA F).all (·.oneCell') = true := by
  rw [Array.all_eq_true_iff_forall_mem]
  intro v hv
  simp only [rowA, rowC, List.mem_toArray, List.mem_map] at hv
  obtain ⟨i, _, rfl⟩ := hv
  rfl
theorem zero36 (w : World) : (zeroValue 36).run Tryz.prog w = .ok (.agg (rowA fun _ => 0)) w := by
  have h : (Tryz.prog.info? 36).map (fun i => i.zero) = some (some (.agg (rowA fun _ => 0))) := by kernel_rfl
  cases hq : Tryz.prog.info? 36 with
  | none => simp [hq] at h
  | some i => simp [hq] at h; simp [zeroValue, typeInfo, hq, h]
theorem heap_new0 (w : World) (o : Obj) : (w.alloc o).heap[w.heap.size]? = some o := by
  show (w.heap.push o)[w.heap.size]? = some o
  simp

theorem getD_row (r : Option (Nat → Nat)) : (r.map rowV).getD (.agg (rowA fun _ => 0)) = .agg (rowA (r.getD fun _ => 0)) := by cases r <;> rfl

theorem of_any (S M n : Nat) (r : List UInt8 → Option (Nat → Nat)) (k : List UInt8) (w : World) (hl : k.length ≤ maxLen) (hS : w.cell? ⟨S, 0, none⟩ = some (.map (some M))) (hSl : S < w.heap.size) (hM : TMap Tryz.prog 9 w M n fun k => (r k).map rowV) :
    Calls Tryz.prog 10 #[.pointer (some ⟨S, 0, none⟩), .string ⟨k.toArray⟩] w fun e w' => e = .returned (rowV ((r k).getD fun _ => 0)) ∧ Below w.heap.size w w' := by
  have hz := zero36
  have hne : ¬ w.heap.size = S := by omega
  have HM := Lib.hid hM
  have HL := Lib.hid hl
  clear hM hl
  go_enter Tryz.func10, Tryz.ntmps10
  go_wp2_with (first
    | (at_lookup; refine wpList_lookup_T rfl _ _ rfl (HM.out.kept (World.grownBy_alloc w _ none) (by simp)) Tryz.underlying9 Tryz.underlying50 (zero36 _) k HL.out _ (getD_row (r k)) rfl rfl ?_)
    | (refine wpList_store_row rfl 36 _ _ rfl w.heap.size (rowA ((r k).getD fun _ => 0)) rfl rfl 36 (rowA fun _ => 0) (heap_new0 _ _) (by rw [rowA_size]; exact size36) (by rw [rowA_size, rowA_size]) (rowA_one _) ?_))
  rw [World.setRow_alloc_new]
  refine bodyPost_ret (v := rowV ((r k).getD fun _ => 0)) (results_cell_row rfl _ _ w.heap.size 36 (rowA ((r k).getD fun _ => 0)) (0, 0) _ rfl ?_ Tryz.underlying36 rfl (by rw [rowA_size]; exact size36)) rfl ⟨rfl, ?_⟩
  · exact heap_new0 _ _
  · exact (Below.refl _ _).alloc (Nat.le_refl _) _
end Go.Proofs.Tryz
