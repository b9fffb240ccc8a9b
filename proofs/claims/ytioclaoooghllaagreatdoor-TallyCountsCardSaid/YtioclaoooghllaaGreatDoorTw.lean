/-
  Seat a: a tally's rows, as an iterator.
  No condition.
-/
import Derived.Test.YtioclaoooghllaaGreatDoorTu
namespace Go.Proofs.Tryz
open Go Go.Sx Go.Sm Go.RowKit Go.Maps Go.Sort Go.Shelf
attribute [local go_sem] Oper.semAt_some wide_depth wide_fn
theorem keys_any (p : Option Addr) (w : World) : CallsIn Fence.wide 0 Tryz.prog 28 #[.pointer p] w fun e w' => e = .returned (.func (.func 36) #[] #[.pointer (some ⟨w.heap.size, 0, none⟩)]) ∧ w' = w.alloc (.cells #[.pointer p] 25) := by
  refine callsIn_of_wp Tryz.func28 rfl trivial ?_ rfl
  simp only [Tryz.ntmps28, List.size_toArray, List.length_cons, List.length_nil, Nat.reduceAdd, Nat.reduceSub, Array.replicate_succ, Array.replicate_zero, List.push_toArray, List.append_toArray, List.nil_append, List.cons_append]
  gi_wp2
  go_ret
  exact ⟨rfl, rfl⟩
theorem all_any (p : Option Addr) (w : World) : CallsIn Fence.wide 0 Tryz.prog 26 #[.pointer p] w fun e w' => e = .returned (.func (.func 35) #[] #[.pointer (some ⟨w.heap.size, 0, none⟩)]) ∧ w' = w.alloc (.cells #[.pointer p] 25) := by
  refine callsIn_of_wp Tryz.func26 rfl trivial ?_ rfl
  simp only [Tryz.ntmps26, List.size_toArray, List.length_cons, List.length_nil, Nat.reduceAdd, Nat.reduceSub, Array.replicate_succ, Array.replicate_zero, List.push_toArray, List.append_toArray, List.nil_append, List.cons_append]
  gi_wp2
  go_ret
  exact ⟨rfl, rfl⟩
abbrev encP (r : List UInt8 → Option (Nat → Nat)) (k : List UInt8) : Array Value := #[.string ⟨k.toArray⟩, rowV ((r k).getD fun _ => 0)]
set_option maxRecDepth 100000 in
set_option maxHeartbeats 4000000 in
theorem all1_runs (c S M n : Nat) (r : List UInt8 → Option (Nat → Nat)) (ks : List (List UInt8)) (hks : IsKeys (fun k => (r k).map rowV) ks) (hl : ∀ k ∈ ks, k.length ≤ maxLen) (hn : n ≤ 1000000) :
    Runs Tryz.prog 35 #[.pointer (some ⟨c, 0, none⟩)] (encP r) (fun Ms W => (W.cell? ⟨c, 0, none⟩ = some (.pointer (some ⟨S, 0, none⟩)) ∧ Tally W S M n fun k => (r k).map rowV) ∧ ¬ Ms c ∧ ¬ Ms S ∧ ¬ Ms M) ks := by
  rintro l Ms J W ⟨⟨hc, hT⟩, nc, nS, nM⟩ hMs hJ hY h0
  refine callsIn_of_wp_marks Tryz.func35 rfl trivial ?_ rfl
  simp only [Tryz.ntmps35, List.size_toArray, List.length_cons, List.length_nil, Nat.reduceAdd, Nat.reduceSub, Array.replicate_succ, Array.replicate_zero, List.push_toArray, List.append_toArray, List.nil_append, List.cons_append]
  have hcl := World.block_lt_of_cell? W _ hc
  have hc1 : ∀ o, (W.alloc o).cell? ⟨c, 0, none⟩ = some (.pointer (some ⟨S, 0, none⟩)) := fun o => (World.cell?_of_block (Below.heap_alloc W o c hcl)).trans hc
  gi_wp2_with (gi_at_call 28; refine (keys_any _ _).mono ?_; rintro e w' ⟨rfl, rfl⟩)
  obtain ⟨W0, hW0⟩ : ∃ W0, (W.alloc (.cells #[.func (.yield l) #[] #[]] 80)).alloc (.cells #[.pointer (some ⟨S, 0, none⟩)] 25) = W0 := ⟨_, rfl⟩
  have hb0 : RowKit.Below W.heap.size W W0 := by rw [← hW0]; exact ((RowKit.Below.refl _ W).alloc (Nat.le_refl _) _).alloc (by simp) _
  have hs0 : W0.heap.size = W.heap.size + 2 := by rw [← hW0]; simp
  have cy : W0.cell? ⟨W.heap.size, 0, none⟩ = some (.func (.yield l) #[] #[]) := by rw [← hW0]; simp
  have cp : W0.cell? ⟨W.heap.size + 1, 0, none⟩ = some (.pointer (some ⟨S, 0, none⟩)) := by rw [← hW0]; simp
  rw [hW0]
  have hT0 := hT.but (Ms := fun _ => False) (.of_below hb0 (Nat.le_refl _)) (fun h => h) (fun h => h)
  have hSl := World.block_lt_of_cell? W _ hT.cell
  have hMl := hT.map.lt
  refine wpIn_rangeFunc_all (α := List UInt8) (gf := 36) (lb := #[.pointer (some ⟨W.heap.size + 1, 0, none⟩)]) rfl (enters_of Tryz.func36 (by kernel_rfl) rfl) (keys1_runs (W.heap.size + 1) S M n _ ks hks hn) (fun _ => rfl) Ms (fun k hk => by have := hMs k hk; omega)
    (fun w' hw' => ⟨(hw'.cell (p := ⟨W.heap.size + 1, 0, none⟩) (by simp; omega)).trans cp, hT0.but (Ms := fun _ => False) (.of_below hw' (Nat.le_refl _)) (fun h => h) (fun h => h)⟩)
    (fun pre W' => (J pre W' ∧ But Ms W W') ∧ W'.cell? ⟨W.heap.size, 0, none⟩ = some (.func (.yield l) #[] #[]))
    (fun s A B hs hab => ⟨⟨hJ _ _ _ hs.1.1 (hab.mono (by omega)), hs.1.2.later hab (by omega)⟩, (hab.cell (p := ⟨W.heap.size, 0, none⟩) (by simp; omega)).trans hs.2⟩)
    ⟨⟨hJ _ _ _ h0 hb0, .of_below hb0 (Nat.le_refl _)⟩, cy⟩ ?round ?done
  case round =>
    rintro l2 pre x post W1 hl2 hx ⟨⟨hJ1, hbw1⟩, cy1⟩ hbw01 hlt
    gi_wp2
    refine ⟨.refl _ _, fun W2 hb2 => ?_⟩
    have hB12 : RowKit.Below (W.heap.size + 2) W1 W2 := hb2.below (fun k h1 h2 => by omega) (by have := hbw01.size; omega)
    have hJ2 : J pre W2 := hJ _ _ _ hJ1 (hB12.mono (by omega))
    have hbw2 : But Ms W W2 := hbw1.later hB12 (by omega)
    have hT2 := hT.but hbw2 nS nM
    have hof := Lib.hid (of_any S M n r x W2.drew (hl x (by rw [hx]; simp)) hT2.cell (World.block_lt_of_cell? W2 _ hT2.cell) (hT2.map : TMap Tryz.prog 9 W2.drew M n _))
    have hc2 := hbw2.cell hc nc
    have cy2 := (hB12.cell (p := ⟨W.heap.size, 0, none⟩) (by simp)).trans cy1
    have HY := Lib.hid (fun w3 (h3 : RowKit.Below W2.heap.size W2 w3) => hY pre x post w3 hx (hJ _ _ _ hJ2 (h3.mono hbw2.size)) (hbw2.later h3 (hbw2.size)))
    have hcl2 : c < W2.heap.size := World.block_lt_of_cell? W2 _ hc2
    have hyl2 : W.heap.size < W2.heap.size := World.block_lt_of_cell? W2 _ cy2
    have hsz2 := hbw2.size
    have HMs := Lib.hid hMs
    have Hbw2 := Lib.hid hbw2
    clear hx hY hT hT0 hT2 hbw01 hbw1 hJ1 hJ hJ2 hbw2 hs0 hks hl hb2 hB12 hc1 hb0 cp cy h0 hc cy1 hMs
    gi_wp2
    refine startR (S := fun w' : World => w'.cell? ⟨W.heap.size, 0, none⟩ = some (.func (.yield l) #[] #[]) ∧ w'.cell? ⟨c, 0, none⟩ = some (.pointer (some ⟨S, 0, none⟩))) 7 #[false, false, false, false, false, false, false] mixed rfl rfl ?_
    refine takeQR 0 #[true, false, false, false, false, false, false] (some 7) (v := .func (.yield l) #[] #[]) (noDefer_of (by kernel_rfl)) rfl (by kernel_rfl) (fun _ _ _ h => h) rfl (fun w' hw' => by have h := hw'.1; go_simp) ⟨cy2, hc2⟩ rfl rfl ?_
    simp only [Act.put, List.setIfInBounds_toArray, List.set_cons_zero, List.set_cons_succ]
    refine takeQR 1 #[true, true, false, false, false, false, false] (some 8) (v := .string ⟨x.toArray⟩) (noDefer_of (by kernel_rfl)) rfl (by kernel_rfl) (fun _ _ _ h => h) rfl (fun w' hw' => rfl) ⟨cy2, hc2⟩ rfl rfl ?_
    simp only [Act.put, List.setIfInBounds_toArray, List.set_cons_zero, List.set_cons_succ]
    refine takeQR 2 #[true, true, true, false, false, false, false] (some 9) (v := .pointer (some ⟨S, 0, none⟩)) (noDefer_of (by kernel_rfl)) rfl (by kernel_rfl) (fun _ _ _ h => h) rfl (fun w' hw' => by have h := hw'.2; go_simp) ⟨cy2, hc2⟩ rfl rfl ?_
    simp only [Act.put, List.setIfInBounds_toArray, List.set_cons_zero, List.set_cons_succ]
    refine takeQR 3 #[true, true, true, true, false, false, false] (some 10) (v := .string ⟨x.toArray⟩) (noDefer_of (by kernel_rfl)) rfl (by kernel_rfl) (fun _ _ _ h => h) rfl (fun w' hw' => rfl) ⟨cy2, hc2⟩ rfl rfl ?_
    simp only [Act.put, List.setIfInBounds_toArray, List.set_cons_zero, List.set_cons_succ]
    refine takeER 4 #[true, true, true, true, true, false, false] (some 11) (by kernel_rfl) rfl rfl rfl rfl fun K hK => ?_
    refine callR (by intro c h; cases h) (f := 10) (args := #[.pointer (some ⟨S, 0, none⟩), .string ⟨x.toArray⟩]) (w1 := W2.drew) (by go_simp) hof.out ?_
    rintro e w3 ⟨rfl, hb3⟩
    have cy3 := (hb3.cell (p := ⟨W.heap.size, 0, none⟩) hyl2).trans cy2
    have hc3 := (hb3.cell (p := ⟨c, 0, none⟩) hcl2).trans hc2
    obtain ⟨fn, tmps, assign, body, hy, hR⟩ := HY.out w3 ((RowKit.Below.refl _ W2).drew.trans hb3)
    refine ⟨_, rfl, hK _ _ ⟨cy3, hc3⟩ ?_⟩
    clear hK K
    simp only [Act.put, List.setIfInBounds_toArray, List.set_cons_zero, List.set_cons_succ]
    refine takeER 5 #[true, true, true, true, true, true, false] (some 12) (by kernel_rfl) rfl rfl rfl rfl fun K hK => ?_
    refine yieldR (by intro c h; cases h) (w1 := w3) (by go_simp) hR ?_
    rintro e w4 ⟨rfl, hJ4, hb4⟩
    have nW : ¬ Ms W.heap.size := fun h => by have := HMs.out _ h; omega
    have cy4 := hb4.cell cy3 nW
    have hc4 := hb4.cell hc3 nc
    refine ⟨_, rfl, hK _ _ ⟨cy4, hc4⟩ ?_⟩
    clear hK K
    simp only [Act.put, List.setIfInBounds_toArray, List.set_cons_zero, List.set_cons_succ]
    refine takeQR 6 #[true, true, true, true, true, true, true] (some 13) (v := .bool false) (noDefer_of (by kernel_rfl)) rfl (by kernel_rfl) (fun _ _ _ h => h) rfl (fun w' hw' => by go_simp) ⟨cy4, hc4⟩ rfl rfl ?_
    simp only [Act.put, List.setIfInBounds_toArray, List.set_cons_zero, List.set_cons_succ]
    refine doneR (by kernel_rfl) ?_
    gi_wp2
    have hb3' : RowKit.Below W2.heap.size W2 w3 := (RowKit.Below.refl _ W2).drew.trans hb3
    have hb24 : But Ms W2 w4 := (But.of_below hb3' (Nat.le_refl _)).trans hb4
    exact ⟨hb24, ⟨hJ4, Hbw2.out.trans hb24⟩, cy4⟩
  case done =>
    rintro W1 ⟨⟨hJ1, hbw1⟩, cy1⟩ hbw01 hK
    rw [hs0] at hK
    gi_wp2
    refine ⟨by simp, .inl ⟨_, _, rfl, run_takeDeferred hK, ?_⟩⟩
    refine ⟨_, results_none rfl _ _ _, ⟨_, rfl⟩, ?_⟩
    have hbe : RowKit.Below W.heap.size W1 (W1.putObj (W.heap.size + 2) (.deferred none)) := (But.putObj (fun k => k = W.heap.size + 2) W1 (W.heap.size + 2) (.deferred none) rfl).below (fun k h1 h2 => by omega) hbw1.size
    exact ⟨hJ _ _ _ hJ1 hbe, hbw1.later hbe (Nat.le_refl _)⟩
end Go.Proofs.Tryz
