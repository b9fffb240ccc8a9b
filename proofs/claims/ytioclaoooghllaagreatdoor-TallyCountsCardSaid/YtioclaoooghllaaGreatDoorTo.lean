/-
  Seat a: the document's row.
  No condition.
-/
import Derived.Test.YtioclaoooghllaaGreatDoorTl
namespace Go.Proofs.Tryz
open Go Go.Sx Go.Sm Go.RowKit
theorem zero67 (w : World) : (zeroValue 67).run Tryz.prog w = .ok (.agg (rowA fun _ => 0)) w := by
  have h : (Tryz.prog.info? 67).map (fun i => i.zero) = some (some (.agg (rowA fun _ => 0))) := by kernel_rfl
  cases hq : Tryz.prog.info? 67 with
  | none => simp [hq] at h
  | some i => simp [hq] at h; simp [zeroValue, typeInfo, hq, h]
theorem size67 : (Tryz.prog.info? 67).map (·.size) = some 69 := by kernel_rfl
theorem heap_setCell {w : World} {g j : Nat} {cs : Array Value} {t : TypeId} (hg : w.heap[g]? = some (.cells cs t (0, 0))) (v : Value) : (w.setCell ⟨g, j, none⟩ v).heap[g]? = some (.cells (cs.setIfInBounds j v) t (0, 0)) := by
  rw [setCell_eq_setRow w g j cs t (0, 0) v hg]
  exact setRow_heap w g cs _ t _ hg

theorem take_snoc {α : Type} {xs : List α} {m : Nat} (h : m < xs.length) : xs.take (m + 1) = xs.take m ++ [xs[m]] := by rw [List.take_succ_eq_append_getElem h]
theorem heap_set {W : World} {g : Nat} {F : Nat → Nat} (hg : W.heap[g]? = some (.cells (rowA F) 67 (0, 0))) (j v : Nat) : (W.setCell ⟨g, j, none⟩ (.int .u64 (v : Int))).heap[g]? = some (.cells (rowA fun i => if i = j then v else F i) 67 (0, 0)) := by
  rw [heap_setCell hg, rowA_set]
theorem heap_other {W : World} {g g0 : Nat} (h : g0 ≠ g) {o : Option Obj} (h0 : W.heap[g0]? = o) (j : Nat) (v : Value) : (W.setCell ⟨g, j, none⟩ v).heap[g0]? = o := by
  rw [← h0]
  exact Below.heap_setCell _ _ _ _ h
theorem spec_step (l : List Nat) (x i : Nat) : specF (l ++ [x]) i = if i = 4 + Lib.bitLen x then cntL l (Lib.bitLen x) + 1 else if i = 3 then (if mostL l < x then x else mostL l) else if i = 2 then (if l = [] ∨ x < leastL l then x else leastL l) else
    if i = 1 then (sumL l % 18446744073709551616 + x) % 18446744073709551616 else if i = 0 then l.length + 1 else specF l i := by
  unfold specF
  by_cases e0 : i = 0
  · subst e0
    have : ¬ 0 = 4 + Lib.bitLen x := by omega
    simp [this]
  by_cases e1 : i = 1
  · have : ¬ i = 4 + Lib.bitLen x := by omega
    simp [e1, sumL_snoc]; omega
  by_cases e2 : i = 2
  · have : ¬ 2 = 4 + Lib.bitLen x := by omega
    subst e2
    rw [if_neg this]
    by_cases h : l = []
    · subst h; simp [leastL]
    · simp [leastL_snoc l x h, h]
  by_cases e3 : i = 3
  · have : ¬ 3 = 4 + Lib.bitLen x := by omega
    subst e3
    rw [if_neg this]
    simp [mostL_snoc]
  simp only [e0, e1, e2, e3, if_false]
  rw [cntL_snoc]
  by_cases e4 : i = 4 + Lib.bitLen x
  · have : i - 4 = Lib.bitLen x := by omega
    rw [if_pos e4, this, if_pos rfl]
  · have : ¬ Lib.bitLen x = i - 4 := by omega
    rw [if_neg e4, if_neg this]; rfl

theorem spec_fin (l : List Nat) (x : Nat) (b2 b3 : Bool) (h2 : b2 = true ↔ (l = [] ∨ x < leastL l)) (h3 : b3 = true ↔ mostL l < x) (i : Nat) :
    (if i = 4 + Lib.bitLen x then cntL l (Lib.bitLen x) + 1 else if b3 = true ∧ i = 3 then x else if b2 = true ∧ i = 2 then x else if i = 1 then (sumL l % 18446744073709551616 + x) % 18446744073709551616 else if i = 0 then l.length + 1 else specF l i) = specF (l ++ [x]) i := by
  rw [spec_step]
  by_cases e4 : i = 4 + Lib.bitLen x
  · rw [if_pos e4, if_pos e4]
  rw [if_neg e4, if_neg e4]
  by_cases e3 : i = 3
  · subst e3
    rw [if_pos rfl]
    cases b3 with
    | true => rw [if_pos ⟨rfl, rfl⟩, if_pos (h3.1 rfl)]
    | false =>
      have : ¬ mostL l < x := fun h => by have := h3.2 h; cases this
      simp [this, specF]
  rw [if_neg (fun h => e3 h.2), if_neg e3]
  by_cases e2 : i = 2
  · subst e2
    rw [if_pos rfl]
    cases b2 with
    | true => rw [if_pos ⟨rfl, rfl⟩, if_pos (h2.1 rfl)]
    | false =>
      have : ¬ (l = [] ∨ x < leastL l) := fun h => by have := h2.2 h; cases this
      simp [this, specF]
  rw [if_neg (fun h => e2 h.2), if_neg e2]

set_option maxRecDepth 100000 in
set_option maxHeartbeats 1000000 in
theorem rof (b cap : Nat) (xs : List Nat) (w : World) (hb : b < w.heap.size) (hl : xs.length ≤ 100) (hx : ∀ x ∈ xs, x < 18446744073709551616) (hc : ∀ m (h : m < xs.length), w.cell? ⟨b, m, none⟩ = some (.int .u64 (xs[m] : Nat))) :
    Calls Tryz.prog 27 #[.slice (some ⟨b, 0, none⟩) xs.length cap] w fun e w' => e = .returned (rowV (specF xs)) ∧ Below w.heap.size w w' := by
  have hz := zero67
  have HX := Lib.hid hx
  have HC := Lib.hid hc
  clear hx hc
  go_enter Tryz.func27, Tryz.ntmps27
  go_wp2
  go_loopw [8] (fun i wr => ∃ k : Nat, k ≤ xs.length ∧ i = .int .i64 k ∧ wr.heap[w.heap.size]? = some (.cells (rowA fun _ => 0) 67 (0, 0)) ∧ wr.heap[w.heap.size + 1]? = some (.cells (rowA (specF (xs.take k))) 67 (0, 0)) ∧ Below w.heap.size w wr) (fun i _ => xs.length - (intOf i).toNat)
  case atStart =>
    refine ⟨0, Nat.zero_le _, rfl, ?_, ?_, ?_⟩
    · show (((w.heap.push _).push _))[w.heap.size]? = _
      rw [Array.getElem?_push, if_neg (by simp), Array.getElem?_push, if_pos rfl]
    · have e : xs.take 0 = [] := rfl
      rw [e, rowA_congr fun i _ => specF_nil i]
      show (((w.heap.push _).push _))[w.heap.size + 1]? = _
      rw [Array.getElem?_push, if_pos (by simp)]
    · exact ((Below.refl _ _).alloc (Nat.le_refl _) _).alloc (by simp) _
  case round =>
    obtain ⟨k, hk, rfl, hg0, hg1, hbl⟩ := hrel
    by_cases hlt : k < xs.length
    · have hcx : wr.cell? ⟨b, k, none⟩ = some (.int .u64 (xs[k] : Nat)) := (hbl.cell (p := ⟨b, k, none⟩) hb).trans (HC.out k hlt)
      have hxm := HX.out (xs[k]) (List.getElem_mem hlt)
      have hts : xs.take (k + 1) = xs.take k ++ [xs[k]] := take_snoc hlt
      obtain ⟨x, hx⟩ : ∃ x, x = xs[k] := ⟨_, rfl⟩
      rw [← hx] at hcx hxm hts
      clear hx
      obtain ⟨l, hll⟩ : ∃ l, l = xs.take k := ⟨_, rfl⟩
      have hlen : l.length = k := by rw [hll]; simp; omega
      rw [← hll] at hg1 hts
      have hbl2 := bitLen_le64 x hxm
      have hcells : ∀ j, j < 69 → wr.cell? ⟨w.heap.size + 1, j, none⟩ = some (.int .u64 (specF l j : Nat)) := fun j hj => by rw [cell_of_row _ _ _ _ _ _ hg1, rowA_at _ hj]
      have hfro : ∀ j, wr.frozen? ⟨w.heap.size + 1, j, none⟩ = false := fun j => by simp [World.frozen?, hg1]
      have c0 := hcells 0 (by omega)
      have c1 := hcells 1 (by omega)
      have c2 := hcells 2 (by omega)
      have c3 := hcells 3 (by omega)
      have c4 := hcells (4 + Lib.bitLen x) (by omega)
      have s0 : specF l 0 = l.length := rfl
      have s1 : specF l 1 = sumL l % 18446744073709551616 := rfl
      have s2 : specF l 2 = leastL l := rfl
      have s3 : specF l 3 = mostL l := rfl
      have s4 : specF l (4 + Lib.bitLen x) = cntL l (Lib.bitLen x) := by
        have e : 4 + Lib.bitLen x - 4 = Lib.bitLen x := by omega
        unfold specF
        rw [if_neg (by omega), if_neg (by omega), if_neg (by omega), if_neg (by omega), e]
      rw [s0] at c0
      rw [s1] at c1
      rw [s2] at c2
      rw [s3] at c3
      rw [s4] at c4
      have hc4 := cntL_le l (Lib.bitLen x)
      have e0 : IntKind.u64.wrap ((l.length : Int) + 1) = ((l.length + 1 : Nat) : Int) := by rw [IntKind.wrap_u64]; omega
      have e1 : IntKind.u64.wrap (((sumL l % 18446744073709551616 : Nat) : Int) + (x : Int)) = (((sumL l % 18446744073709551616 + x) % 18446744073709551616 : Nat) : Int) := by rw [IntKind.wrap_u64]; omega
      have e4 : IntKind.u64.wrap ((cntL l (Lib.bitLen x) : Int) + 1) = ((cntL l (Lib.bitLen x) + 1 : Nat) : Int) := by rw [IntKind.wrap_u64]; omega
      obtain ⟨b0, hb0⟩ : ∃ b0, b0 = l.length + 1 := ⟨_, rfl⟩
      obtain ⟨a1, ha1⟩ : ∃ a1, a1 = sumL l % 18446744073709551616 := ⟨_, rfl⟩
      obtain ⟨b1, hb1⟩ : ∃ b1, b1 = (sumL l % 18446744073709551616 + x) % 18446744073709551616 := ⟨_, rfl⟩
      obtain ⟨a2, ha2⟩ : ∃ a2, a2 = leastL l := ⟨_, rfl⟩
      obtain ⟨a3, ha3⟩ : ∃ a3, a3 = mostL l := ⟨_, rfl⟩
      obtain ⟨a4, ha4⟩ : ∃ a4, a4 = cntL l (Lib.bitLen x) := ⟨_, rfl⟩
      obtain ⟨b4, hb4⟩ : ∃ b4, b4 = cntL l (Lib.bitLen x) + 1 := ⟨_, rfl⟩
      rw [← hb0] at e0
      rw [← hb1, ← ha1] at e1
      rw [← ha1] at c1
      rw [← ha2] at c2
      rw [← ha3] at c3
      rw [← hb4, ← ha4] at e4
      rw [← ha4] at c4
      have HB := Lib.hid (And.intro hb0 (And.intro hb1 (And.intro ha2 (And.intro ha3 hb4))))
      clear s0 s1 s2 s3 s4 hc4 ha1 ha4 hb0 hb1 ha2 ha3 hb4
      have HT := Lib.hid hts
      have HLE := Lib.hid (And.intro hlen hll)
      have HG := Lib.hid (And.intro hg0 hg1)
      clear hts hlen hll hg0 hg1 hcells
      go_wp2_with (go_at_call 8; refine (rcls x _ hxm).mono ?_; rintro e w' ⟨rfl, rfl⟩)
      all_goals
        obtain ⟨hb0, hb1, ha2, ha3, hb4⟩ := HB.out
        obtain ⟨hlen, hll⟩ := HLE.out
      all_goals go_roundw
      all_goals try (case measure => simp [intOf]; omega)
      all_goals have hne : w.heap.size ≠ w.heap.size + 1 := by omega
      all_goals have hle : w.heap.size ≤ w.heap.size + 1 := by omega
      · have q3 : true = true ↔ mostL l < x := ⟨(fun h => by omega), (fun h => by rfl)⟩
        have hk0 : k = 0 := by omega
        have hnil : l = [] := List.eq_nil_of_length_eq_zero (by omega)
        have q2 : true = true ↔ (l = [] ∨ x < leastL l) := ⟨fun _ => .inl hnil, fun _ => rfl⟩
        have hi1 : Value.int .i64 1 = .int .i64 ((k + 1 : Nat) : Int) := by rw [hk0]; rfl
        refine ⟨k + 1, by omega, hi1, (heap_other hne (heap_other hne (heap_other hne (heap_other hne (heap_other hne HG.out.1 _ _) _ _) _ _) _ _) _ _), ?_, (((((hbl.setCell hle _).setCell hle _).setCell hle _).setCell hle _).setCell hle _)⟩
        refine (heap_set (heap_set (heap_set (heap_set (heap_set HG.out.2 0 b0) 1 b1) 2 x) 3 x) (4 + Lib.bitLen x) b4).trans ?_
        rw [HT.out]
        refine congrArg (fun A => some (Obj.cells A 67 (0, 0))) (rowA_congr fun i _ => ?_)
        rw [← spec_fin l x true true q2 q3 i, ← hb0, ← hb1, ← hb4]
        simp
      · have q3 : false = true ↔ mostL l < x := ⟨(fun h => by cases h), (fun h => by omega)⟩
        have hk0 : k = 0 := by omega
        have hnil : l = [] := List.eq_nil_of_length_eq_zero (by omega)
        have q2 : true = true ↔ (l = [] ∨ x < leastL l) := ⟨fun _ => .inl hnil, fun _ => rfl⟩
        have hi1 : Value.int .i64 1 = .int .i64 ((k + 1 : Nat) : Int) := by rw [hk0]; rfl
        refine ⟨k + 1, by omega, hi1, (heap_other hne (heap_other hne (heap_other hne (heap_other hne HG.out.1 _ _) _ _) _ _) _ _), ?_, ((((hbl.setCell hle _).setCell hle _).setCell hle _).setCell hle _)⟩
        refine (heap_set (heap_set (heap_set (heap_set HG.out.2 0 b0) 1 b1) 2 x) (4 + Lib.bitLen x) b4).trans ?_
        rw [HT.out]
        refine congrArg (fun A => some (Obj.cells A 67 (0, 0))) (rowA_congr fun i _ => ?_)
        rw [← spec_fin l x true false q2 q3 i, ← hb0, ← hb1, ← hb4]
        simp
      · have q3 : true = true ↔ mostL l < x := ⟨(fun h => by omega), (fun h => by rfl)⟩
        have hnil : l ≠ [] := fun e => by rw [e] at hlen; simp at hlen; omega
        have q2 : true = true ↔ (l = [] ∨ x < leastL l) := ⟨fun _ => .inr (by omega), fun _ => rfl⟩
        have hi1 : Value.int .i64 ((k : Int) + 1) = .int .i64 ((k + 1 : Nat) : Int) := by go_num
        refine ⟨k + 1, by omega, hi1, (heap_other hne (heap_other hne (heap_other hne (heap_other hne (heap_other hne HG.out.1 _ _) _ _) _ _) _ _) _ _), ?_, (((((hbl.setCell hle _).setCell hle _).setCell hle _).setCell hle _).setCell hle _)⟩
        refine (heap_set (heap_set (heap_set (heap_set (heap_set HG.out.2 0 b0) 1 b1) 2 x) 3 x) (4 + Lib.bitLen x) b4).trans ?_
        rw [HT.out]
        refine congrArg (fun A => some (Obj.cells A 67 (0, 0))) (rowA_congr fun i _ => ?_)
        rw [← spec_fin l x true true q2 q3 i, ← hb0, ← hb1, ← hb4]
        simp
      · have q3 : false = true ↔ mostL l < x := ⟨(fun h => by cases h), (fun h => by omega)⟩
        have hnil : l ≠ [] := fun e => by rw [e] at hlen; simp at hlen; omega
        have q2 : true = true ↔ (l = [] ∨ x < leastL l) := ⟨fun _ => .inr (by omega), fun _ => rfl⟩
        have hi1 : Value.int .i64 ((k : Int) + 1) = .int .i64 ((k + 1 : Nat) : Int) := by go_num
        refine ⟨k + 1, by omega, hi1, (heap_other hne (heap_other hne (heap_other hne (heap_other hne HG.out.1 _ _) _ _) _ _) _ _), ?_, ((((hbl.setCell hle _).setCell hle _).setCell hle _).setCell hle _)⟩
        refine (heap_set (heap_set (heap_set (heap_set HG.out.2 0 b0) 1 b1) 2 x) (4 + Lib.bitLen x) b4).trans ?_
        rw [HT.out]
        refine congrArg (fun A => some (Obj.cells A 67 (0, 0))) (rowA_congr fun i _ => ?_)
        rw [← spec_fin l x true false q2 q3 i, ← hb0, ← hb1, ← hb4]
        simp
      · have q3 : true = true ↔ mostL l < x := ⟨(fun h => by omega), (fun h => by rfl)⟩
        have hnil : l ≠ [] := fun e => by rw [e] at hlen; simp at hlen; omega
        have q2 : false = true ↔ (l = [] ∨ x < leastL l) := ⟨(fun h => by cases h), fun h => by rcases h with h | h; exact absurd h hnil; omega⟩
        have hi1 : Value.int .i64 ((k : Int) + 1) = .int .i64 ((k + 1 : Nat) : Int) := by go_num
        refine ⟨k + 1, by omega, hi1, (heap_other hne (heap_other hne (heap_other hne (heap_other hne HG.out.1 _ _) _ _) _ _) _ _), ?_, ((((hbl.setCell hle _).setCell hle _).setCell hle _).setCell hle _)⟩
        refine (heap_set (heap_set (heap_set (heap_set HG.out.2 0 b0) 1 b1) 3 x) (4 + Lib.bitLen x) b4).trans ?_
        rw [HT.out]
        refine congrArg (fun A => some (Obj.cells A 67 (0, 0))) (rowA_congr fun i _ => ?_)
        rw [← spec_fin l x false true q2 q3 i, ← hb0, ← hb1, ← hb4]
        simp
      · have q3 : false = true ↔ mostL l < x := ⟨(fun h => by cases h), (fun h => by omega)⟩
        have hnil : l ≠ [] := fun e => by rw [e] at hlen; simp at hlen; omega
        have q2 : false = true ↔ (l = [] ∨ x < leastL l) := ⟨(fun h => by cases h), fun h => by rcases h with h | h; exact absurd h hnil; omega⟩
        have hi1 : Value.int .i64 ((k : Int) + 1) = .int .i64 ((k + 1 : Nat) : Int) := by go_num
        refine ⟨k + 1, by omega, hi1, (heap_other hne (heap_other hne (heap_other hne HG.out.1 _ _) _ _) _ _), ?_, (((hbl.setCell hle _).setCell hle _).setCell hle _)⟩
        refine (heap_set (heap_set (heap_set HG.out.2 0 b0) 1 b1) (4 + Lib.bitLen x) b4).trans ?_
        rw [HT.out]
        refine congrArg (fun A => some (Obj.cells A 67 (0, 0))) (rowA_congr fun i _ => ?_)
        rw [← spec_fin l x false false q2 q3 i, ← hb0, ← hb1, ← hb4]
        simp
    · obtain rfl : k = xs.length := by omega
      rw [List.take_length] at hg1
      go_wp2_with (first
        | (refine wpList_load_row rfl 67 _ rfl (w.heap.size + 1) rfl 67 (rowA (specF xs)) (0, 0) _ hg1 Tryz.underlying67 rfl (by rw [rowA_size]; exact size67) ?_)
        | (refine wpList_store_row rfl 67 _ _ rfl w.heap.size (rowA (specF xs)) rfl rfl 67 (rowA fun _ => 0) hg0 (by rw [rowA_size]; exact size67) (by rw [rowA_size, rowA_size]) (rowA_one _) ?_))
      refine bodyPost_ret (v := rowV (specF xs)) (results_cell_row rfl _ _ w.heap.size 67 (rowA (specF xs)) (0, 0) _ rfl (setRow_heap _ _ _ _ _ _ hg0) Tryz.underlying67 rfl (by rw [rowA_size]; exact size67)) rfl ⟨rfl, ?_⟩
      exact hbl.trans ⟨rfl, rfl, rfl, by simp [World.setRow], fun j hj => setRow_other _ _ _ _ (by omega)⟩
end Go.Proofs.Tryz
