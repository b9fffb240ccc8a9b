/-
  Seat a: a number counted at a key.
  No condition.
-/
import Derived.Test.YtioclaoooghllaaGreatDoorTj
import Derived.Test.YtioclaoooghllaaGreatDoorTq
namespace Go.Proofs.Tryz
open Go Go.Sx Go.Sm Go.RowKit
def oneF (n : Nat) : Nat → Nat := fun i => if i = 0 then 1 else if i < 4 then n else if i = 4 + Lib.bitLen n then 1 else 0
def oneF0 (n : Nat) : Nat → Nat := fun i => if i = 0 then 1 else if i < 4 then n else 0

theorem rowA_congr {F G : Nat → Nat} (h : ∀ i, i < 69 → F i = G i) : rowA F = rowA G := by
  unfold rowA rowC
  rw [range_map_congr fun i hi => by rw [h i hi]]
theorem rowA_set (F : Nat → Nat) (j v : Nat) : (rowA F).setIfInBounds j (.int .u64 (v : Int)) = rowA fun i => if i = j then v else F i := by
  apply Array.ext_getElem?
  intro i
  rw [Array.getElem?_setIfInBounds]
  by_cases hi : i < 69
  · rw [rowA_at _ hi]
    by_cases hj : j = i
    · subst hj
      rw [if_pos rfl, if_pos (by rw [rowA_size]; exact hi), rowA_at _ hi, if_pos rfl]
    · rw [if_neg hj, rowA_at _ hi, if_neg (fun h => hj h.symm)]
  · rw [Array.getElem?_eq_none (xs := rowA fun i => if i = j then v else F i) (by rw [rowA_size]; omega)]
    split
    · rename_i h; subst h; simp [rowA_size, hi]
    · rw [Array.getElem?_eq_none (by rw [rowA_size]; omega)]
theorem one_built (n : Nat) : ((((rowA fun _ => 0).setIfInBounds 0 (.int .u64 1)).setIfInBounds 1 (.int .u64 (n : Int))).setIfInBounds 2 (.int .u64 (n : Int))).setIfInBounds 3 (.int .u64 (n : Int)) = rowA (oneF0 n) := by
  have h := rowA_set (fun _ => 0) 0 1
  simp only [Int.natCast_one] at h
  rw [h, rowA_set, rowA_set, rowA_set]
  refine rowA_congr fun i _ => ?_
  unfold oneF0
  by_cases h0 : i = 0
  · subst h0; simp
  · by_cases h1 : i = 1
    · subst h1; simp
    · by_cases h2 : i = 2
      · subst h2; simp
      · by_cases h3 : i = 3
        · subst h3; simp
        · have : ¬ i < 4 := by omega
          simp [h0, h1, h2, h3, this]
theorem one_set (n : Nat) : (rowA (oneF0 n)).setIfInBounds (4 + Lib.bitLen n) (.int .u64 1) = rowA (oneF n) := by
  have h := rowA_set (oneF0 n) (4 + Lib.bitLen n) 1
  simp only [Int.natCast_one] at h
  rw [h]
  refine rowA_congr fun i _ => ?_
  unfold oneF0 oneF
  by_cases h0 : i = 0
  · subst h0; simp
  · by_cases h4 : i < 4
    · have : ¬ i = 4 + Lib.bitLen n := by omega
      simp [h0, h4, this]
    · simp [h0, h4]
theorem cell_new (w : World) (cs : Array Value) (t : TypeId) (j : Nat) : (w.alloc (.cells cs t)).cell? ⟨w.heap.size, j, none⟩ = cs[j]? := by
  rw [cell_of_row _ _ j cs t (0, 0) (heap_new0 _ _)]
theorem frozen_new (w : World) (cs : Array Value) (t : TypeId) (j : Nat) : (w.alloc (.cells cs t)).frozen? ⟨w.heap.size, j, none⟩ = false := by
  simp only [World.frozen?, heap_new0]
  simp

set_option maxRecDepth 100000 in
set_option maxHeartbeats 400000 in
theorem add_any (S M m n : Nat) (r : List UInt8 → Option (Nat → Nat)) (k : List UInt8) (w : World) (hl : k.length ≤ maxLen) (hn : n < 18446744073709551616) (hm : m < maxLen) (hS : w.cell? ⟨S, 0, none⟩ = some (.map (some M))) (hSl : S < w.heap.size) (hM : TMap Tryz.prog 9 w M m fun k => (r k).map rowV) :
    Calls Tryz.prog 6 #[.pointer (some ⟨S, 0, none⟩), .string ⟨k.toArray⟩, .int .u64 n] w fun e w' => e = .returned (.tuple #[]) ∧
      TMap Tryz.prog 9 w' M (m + 1) (fun k' => if k' = k then some (rowV (plusF ((r k).getD fun _ => 0) (oneF n))) else (r k').map rowV) ∧ w.grownBy w' (some M) := by
  have hz := zero36
  have hne : ¬ w.heap.size = S := by omega
  have HM := Lib.hid hM
  have HL := Lib.hid hl
  have hb := bitLen_le64 n hn
  have hcell : (w.alloc (.cells (rowA (oneF0 n)) 36)).cell? ⟨w.heap.size, 4 + Lib.bitLen n, none⟩ = some (.int .u64 (oneF0 n (4 + Lib.bitLen n) : Nat)) := by rw [cell_new, rowA_at _ (by omega)]
  have hfro := frozen_new w (rowA (oneF0 n)) 36 (4 + Lib.bitLen n)
  have hset := one_set n
  clear hM hl
  go_enter Tryz.func6, Tryz.ntmps6
  go_wp2_with (first
    | (go_at_call 7; refine (cls n _ hn).mono ?_; rintro e w' ⟨rfl, rfl⟩)
    | (refine wpList_store_row rfl 36 _ _ rfl w.heap.size (rowA (oneF0 n)) rfl (congrArg Value.agg (one_built n)) 36 (rowA fun _ => 0) (heap_new0 _ _) (by rw [rowA_size]; exact size36) (by rw [rowA_size, rowA_size]) (rowA_one _) ?_; rw [World.setRow_alloc_new]))
  have hSM : S ≠ M := by
    obtain ⟨D, ⟨es, clock, hb, _⟩, _⟩ := HM.out
    intro e; subst e; simp [World.cell?, hb] at hS
  have hMl := HM.out.lt
  have hT2 := HM.out.kept (World.grownBy_alloc w (.cells (rowA (oneF n)) 36) none) (by simp)
  have hg2 := World.grownBy_alloc w (.cells (rowA (oneF n)) 36) (some M)
  have hgb := heap_new0 w (.cells (rowA (oneF n)) 36)
  have hS2 : (w.alloc (.cells (rowA (oneF n)) 36)).cell? ⟨S, 0, none⟩ = some (.map (some M)) := by
    have := hg2.block S hSl (by simpa using hSM)
    rw [← hS]; simp [World.cell?, this]
  obtain ⟨w2, hw2⟩ : ∃ w2, w2 = w.alloc (.cells (rowA (oneF n)) 36) := ⟨_, rfl⟩
  rw [← hw2] at hT2 hg2 hgb hS2 ⊢
  obtain ⟨g, hg⟩ : ∃ g, g = w.heap.size := ⟨_, rfl⟩
  rw [← hg] at hgb ⊢
  have hgM : g ≠ M := by omega
  have hgS : S < w2.heap.size ∧ M < w2.heap.size ∧ g < w2.heap.size := by rw [hw2, hg]; simp; omega
  have hload : ∀ w' : World, w'.heap[S]? = w2.heap[S]? → w'.cell? ⟨S, 0, none⟩ = some (.map (some M)) := fun w' h => by
    rw [← hS2]; simp [World.cell?, h]
  clear hcell hfro hset hz hS hw2 hg hne
  have HLO := Lib.hid hload
  refine region_start (S := fun w' : World => w'.heap[S]? = w2.heap[S]? ∧ w'.heap[g]? = w2.heap[g]?) 14 #[false, false, false, false, false, false, false, false, false, false, false, false, false, false] mixed rfl rfl ?_
  refine takeQ 0 #[true, false, false, false, false, false, false, false, false, false, false, false, false, false] (some 17) (v := .pointer (some ⟨S, 0, none⟩)) rfl (by kernel_rfl) (fun _ _ _ h => h) rfl (fun w' hw' => rfl) ⟨rfl, rfl⟩ rfl rfl ?_
  simp only [Act.put, List.setIfInBounds_toArray, List.set_cons_zero, List.set_cons_succ]
  refine takeQ 1 #[true, true, false, false, false, false, false, false, false, false, false, false, false, false] (some 18) (v := .pointer (some ⟨S, 0, none⟩)) rfl (by kernel_rfl) (fun _ _ _ h => h) rfl (fun w' hw' => rfl) ⟨rfl, rfl⟩ rfl rfl ?_
  simp only [Act.put, List.setIfInBounds_toArray, List.set_cons_zero, List.set_cons_succ]
  refine takeQ 2 #[true, true, true, false, false, false, false, false, false, false, false, false, false, false] (some 19) (v := .pointer (some ⟨S, 0, none⟩)) rfl (by kernel_rfl) (fun _ _ _ h => h) rfl (fun w' hw' => by go_simp) ⟨rfl, rfl⟩ rfl rfl ?_
  simp only [Act.put, List.setIfInBounds_toArray, List.set_cons_zero, List.set_cons_succ]
  refine takeQ 3 #[true, true, true, true, false, false, false, false, false, false, false, false, false, false] (some 20) (v := .map (some M)) rfl (by kernel_rfl) (fun _ _ _ h => h) rfl (fun w' hw' => by have h := HLO.out w' hw'.1; go_simp) ⟨rfl, rfl⟩ rfl rfl ?_
  simp only [Act.put, List.setIfInBounds_toArray, List.set_cons_zero, List.set_cons_succ]
  refine takeQ 4 #[true, true, true, true, true, false, false, false, false, false, false, false, false, false] (some 21) (v := .string ⟨k.toArray⟩) rfl (by kernel_rfl) (fun _ _ _ h => h) rfl (fun w' hw' => rfl) ⟨rfl, rfl⟩ rfl rfl ?_
  simp only [Act.put, List.setIfInBounds_toArray, List.set_cons_zero, List.set_cons_succ]
  refine takeQ 5 #[true, true, true, true, true, true, false, false, false, false, false, false, false, false] (some 22) (v := .pointer (some ⟨S, 0, none⟩)) rfl (by kernel_rfl) (fun _ _ _ h => h) rfl (fun w' hw' => rfl) ⟨rfl, rfl⟩ rfl rfl ?_
  simp only [Act.put, List.setIfInBounds_toArray, List.set_cons_zero, List.set_cons_succ]
  refine takeQ 6 #[true, true, true, true, true, true, true, false, false, false, false, false, false, false] (some 23) (v := .pointer (some ⟨S, 0, none⟩)) rfl (by kernel_rfl) (fun _ _ _ h => h) rfl (fun w' hw' => rfl) ⟨rfl, rfl⟩ rfl rfl ?_
  simp only [Act.put, List.setIfInBounds_toArray, List.set_cons_zero, List.set_cons_succ]
  refine takeQ 7 #[true, true, true, true, true, true, true, true, false, false, false, false, false, false] (some 24) (v := .pointer (some ⟨S, 0, none⟩)) rfl (by kernel_rfl) (fun _ _ _ h => h) rfl (fun w' hw' => by go_simp) ⟨rfl, rfl⟩ rfl rfl ?_
  simp only [Act.put, List.setIfInBounds_toArray, List.set_cons_zero, List.set_cons_succ]
  refine takeQ 8 #[true, true, true, true, true, true, true, true, true, false, false, false, false, false] (some 25) (v := .map (some M)) rfl (by kernel_rfl) (fun _ _ _ h => h) rfl (fun w' hw' => by have h := HLO.out w' hw'.1; go_simp) ⟨rfl, rfl⟩ rfl rfl ?_
  simp only [Act.put, List.setIfInBounds_toArray, List.set_cons_zero, List.set_cons_succ]
  refine takeQ 9 #[true, true, true, true, true, true, true, true, true, true, false, false, false, false] (some 26) (v := .string ⟨k.toArray⟩) rfl (by kernel_rfl) (fun _ _ _ h => h) rfl (fun w' hw' => rfl) ⟨rfl, rfl⟩ rfl rfl ?_
  simp only [Act.put, List.setIfInBounds_toArray, List.set_cons_zero, List.set_cons_succ]
  refine takeQ 11 #[true, true, true, true, true, true, true, true, true, true, false, true, false, false] (some 28) rfl (by kernel_rfl) (fun _ _ _ h => h) rfl (fun w' hw' => exec_load_row 36 _ rfl g rfl 36 _ (0, 0) _ (hw'.2.trans hgb) Tryz.underlying36 rfl (by rw [rowA_size]; exact size36)) ⟨rfl, rfl⟩ rfl rfl ?_
  simp only [Act.put, List.setIfInBounds_toArray, List.set_cons_zero, List.set_cons_succ]
  refine takeE 10 #[true, true, true, true, true, true, true, true, true, true, true, true, false, false] (some 27) (by kernel_rfl) rfl rfl rfl rfl fun K hK => ?_
  refine wp_lookup_T _ _ rfl (show TMap Tryz.prog 9 w2.drew M m _ from hT2) Tryz.underlying9 Tryz.underlying50 (zero36 _) k HL.out _ (getD_row (r k)) rfl rfl ?_
  refine hK _ _ ⟨rfl, rfl⟩ ?_
  clear hK K
  simp only [Act.put, List.setIfInBounds_toArray, List.set_cons_zero, List.set_cons_succ]
  refine takeE 12 #[true, true, true, true, true, true, true, true, true, true, true, true, true, false] (some 29) (by kernel_rfl) rfl rfl rfl rfl fun K hK => ?_
  go_simp
  go_wp2_with (go_at_call 20; refine (plus ((r k).getD fun _ => 0) (oneF n) _).mono ?_; rintro e w3 ⟨rfl, hb3⟩)
  refine hK _ _ ⟨hb3.block _ hgS.1, hb3.block _ hgS.2.2⟩ ?_
  clear hK K
  simp only [Act.put, List.setIfInBounds_toArray, List.set_cons_zero, List.set_cons_succ]
  refine takeE 13 #[true, true, true, true, true, true, true, true, true, true, true, true, true, true] none (by kernel_rfl) rfl rfl rfl rfl fun K hK => ?_
  refine wp_update_T _ _ _ rfl (TMap.below (w := w2.drew) hT2 hb3 hgS.2.1) Tryz.underlying9 Tryz.underlying50 hm k HL.out _ rfl rfl rfl ?_
  intro w4 hT4 hg4
  have h3s := hb3.size
  refine hK _ _ ⟨(hg4.block S (Nat.lt_of_lt_of_le hgS.1 h3s) (by simpa using hSM)).trans (hb3.block _ hgS.1), (hg4.block g (Nat.lt_of_lt_of_le hgS.2.2 h3s) (by simpa using hgM)).trans (hb3.block _ hgS.2.2)⟩ ?_
  clear hK K
  refine wpAnyH_done (by kernel_rfl) ?_ _
  go_wp2
  go_end0
  refine ⟨rfl, hT4, ?_⟩
  refine ⟨hg4.os.trans (hb3.os.trans hg2.os), hg4.tape.trans (hb3.tape.trans hg2.tape), hg4.output.trans (hb3.output.trans hg2.output), Nat.le_trans hg2.size (Nat.le_trans hb3.size hg4.size), fun j hj hne => ?_⟩
  have hj2 : j < w2.heap.size := Nat.lt_of_lt_of_le hj hg2.size
  exact (hg4.block j (Nat.lt_of_lt_of_le hj2 h3s) hne).trans ((hb3.block j hj2).trans (hg2.block j hj hne))
end Go.Proofs.Tryz
