/-
  Seat a: TallyCounts.
  No condition.
-/
import Derived.Test.YtioclaoooghllaaGreatDoorUe
namespace Go.Proofs.Tryz
open Go Go.Sx Go.Sm Go.RowKit Go.Maps Go.Sort Go.Shelf
attribute [local go_sem] Oper.semAt_some wide_depth wide_fn
def ActsO (w : World) (a : Option Addr) (l : List (List UInt8 × Nat)) : Prop := l = [] ∨ ∃ b off, a = some ⟨b, off, none⟩ ∧ b < w.heap.size ∧ Acts w b off l
theorem Acts.below {A B : World} {n b off : Nat} {l : List (List UInt8 × Nat)} (h : Acts A b off l) (hb : RowKit.Below n A B) (hn : b < n) : Acts B b off l := fun j hj =>
  ⟨(hb.cell (p := ⟨b, _, none⟩) hn).trans (h j hj).1, (hb.cell (p := ⟨b, _, none⟩) hn).trans (h j hj).2⟩
theorem ActsO.below {A B : World} {n : Nat} {a : Option Addr} {l : List (List UInt8 × Nat)} (h : ActsO A a l) (hb : RowKit.Below n A B) (hn : A.heap.size ≤ n) : ActsO B a l := by
  rcases h with h | ⟨b, off, h1, h2, h3⟩
  · exact .inl h
  · exact .inr ⟨b, off, h1, Nat.lt_of_lt_of_le h2 hb.size, h3.below hb (Nat.lt_of_lt_of_le h2 hn)⟩
theorem lists_o (a : Option Addr) (cap : Nat) (l : List (List UInt8 × Nat)) (w : World) (hl : l.length ≤ 100) (hL : ActsO w a l) (hk : ∀ p ∈ l, p.1.length ≤ maxLen) (hn : ∀ p ∈ l, p.2 < 18446744073709551616) :
    Calls Tryz.prog 9 #[.slice a l.length cap] w fun e w' => e = .returned (.map (some w.heap.size)) ∧ (∃ vs, WInv w' w.heap.size (w.heap.size + 1) l vs) ∧ RowKit.Below w.heap.size w w' := by
  rcases hL with rfl | ⟨b, off, rfl, hb, hA⟩
  · exact lists_none a cap w
  · exact lists b off cap l w hb hl hA hk hn
theorem row_step (l : List (List UInt8 × Nat)) (x : List UInt8 × Nat) (hl : l.length ≤ 100) (hx : x.2 < 18446744073709551616) :
    (fun k => if k = x.1 then some (rowV (plusF ((rOf l x.1).getD fun _ => 0) (oneF x.2))) else (rOf l k).map rowV) = fun k => (rOf (l ++ [x]) k).map rowV := by
  funext k
  by_cases h : k = x.1
  · subst h
    have h1 : rOf (l ++ [x]) x.1 = some (specF (vals l x.1 ++ [x.2])) := by simp [rOf, vals_snoc]
    rw [if_pos rfl, h1]
    have h2 : (rOf l x.1).getD (fun _ => 0) = specF (vals l x.1) := by
      unfold rOf
      split
      · rename_i e; rw [e]; funext i; exact (specF_nil i).symm
      · rfl
    rw [h2]
    refine congrArg (fun A => some (Value.agg A)) (rowA_congr fun i hi => ?_)
    exact plus_spec _ _ (Nat.le_trans (vals_le l x.1) hl) hx hi
  · rw [if_neg h]
    have : vals (l ++ [x]) k = vals l k := by rw [vals_snoc, if_neg (fun e => h e.symm)]
    simp [rOf, this]
theorem res3 (tmps : Array Value) (B : Nat) (W : World) (h : tmps.getD 6 undef = .pointer (some ⟨B, 0, none⟩)) (hc : W.cell? ⟨B, 0, none⟩ = some (.bool true)) : (results Tryz.f3 tmps).run Tryz.prog W = .ok (.bool true) W := by
  have h1 : Tryz.f3.results = #[.cell 6 4] := rfl
  have h2 : tmps[6]?.getD undef = .pointer (some ⟨B, 0, none⟩) := by simpa using h
  clear h
  simp only [results, h1]
  go_simp
theorem grown_of_below {n : Nat} {A B : World} (h : RowKit.Below n A B) (hn : A.heap.size ≤ n) : A.grownBy B none := ⟨h.os, h.tape, h.output, h.size, fun k hk _ => h.block k (by omega)⟩
theorem len_op {o : Oper} {a : Act} {w : World} {n : Nat} (x : Operand) (t : TypeId) (ho : o.op = .call { callee := .builtin .len, args := #[x], argTypes := #[t] }) (h : ∃ b c, a.eval x = .slice b n c) (ht : Tryz.prog.underlying t = some (.slice 23) := by exact Tryz.underlying33) :
    (execOp a.eval o).run Tryz.prog w = .ok (.value (.int .i64 (n : Int))) w := by
  obtain ⟨b, c, h⟩ := h
  unfold execOp
  simp [ho, resolve, invoke, builtin, h, Builtin.len_, run_underlying ht, Result.andThen, goInt]
theorem boxed_put {n m : Nat} {W : World} {v : Value} {o : Obj} (h : Boxed W n 4 v) (hm : ¬ m = n) : (W.putObj m o).cell? ⟨n, 0, none⟩ = some v := by
  have h2 : Boxed (W.putObj m o) n 4 v := (World.putObj_heap_other (by omega)).trans h
  exact h2.cell
theorem fin_below {n m : Nat} {A B C : World} (h1 : RowKit.Below n A B) (h2 : But (fun k => k = n) B C) (hm : n ≤ m) (hn : n ≤ A.heap.size := by omega) : RowKit.Below n A (C.putObj m (.deferred none)) :=
  (h1.trans (h2.below (fun k a b => by omega) (Nat.le_trans hn h1.size))).trans ((But.putObj (fun k => k = m) C m (.deferred none) rfl).below (fun k a b => by omega) (Nat.le_trans hn (Nat.le_trans h1.size h2.size)))
theorem rOf_nil (k : List UInt8) : rOf [] k = none := by simp [rOf, vals]
set_option maxRecDepth 100000 in
set_option maxHeartbeats 1000000 in
theorem tally_any (a : Option Addr) (cap : Nat) (l : List (List UInt8 × Nat)) (s f : Nat) (w : World) (hA : ActsO w a l) (hk : ∀ p ∈ l, p.1.length ≤ maxLen) (hn : ∀ p ∈ l, p.2 < 18446744073709551616) (hs : s < 18446744073709551616) (hf : f < 18446744073709551616)
    (hL : LaidStrs w 2 149 forms) : Calls Tryz.prog 3 #[.slice a l.length cap, .int .u64 s, .int .u64 f] w fun e w' => e = .returned (.bool true) ∧ RowKit.Below w.heap.size w w' := by
  have HA := Lib.hid hA
  have HK := Lib.hid hk
  have HN := Lib.hid hn
  have hL0 : LaidStrs (w.alloc (.cells #[.bool false] 4)) 2 149 forms := by
    obtain ⟨fr, hfr⟩ := hL
    exact ⟨fr, (Below.heap_alloc w _ 2 (Array.getElem?_eq_some_iff.1 hfr).1).trans hfr⟩
  have HAW := Lib.hid (awake36 Tryz.keysOk50 Tryz.keysOk322 _ hL0)
  clear hA hk hn hL hL0
  refine (callsIn_wide (n := 0)).1 ?_
  refine callsIn_of_wp_marks Tryz.func3 rfl trivial ?_ rfl
  refine wpIn_wide.2 ?_
  simp only [Tryz.ntmps3, List.size_toArray, List.length_cons, List.length_nil, Nat.reduceAdd, Nat.reduceSub, Array.replicate_succ, Array.replicate_zero, List.push_toArray, List.append_toArray, List.nil_append, List.cons_append]
  have hb6 := Boxed.new w 4 (.bool false)
  by_cases hl : 100 < l.length
  · have hl' : decide (100 < (l.length : Int)) = true := by simp; omega
    go_wp2_with (go_at_call 4; refine HAW.out.mono ?_; rintro e w1 ⟨rfl, hb1⟩; have c6 := (boxed_but hb6 (But.of_below (M := fun _ => False) hb1 (Nat.le_refl _)) (fun h => h)).cell; have f6 := (boxed_but hb6 (But.of_below (M := fun _ => False) hb1 (Nat.le_refl _)) (fun h => h)).frozen)
    have hbx := boxed_but hb6 (But.of_below (M := fun _ => False) hb1 (Nat.le_refl _)) (fun h => h)
    refine ⟨_, res3 _ w.heap.size _ rfl (hbx.set (.bool true)).cell, rfl, ?_⟩
    exact (((RowKit.Below.refl _ w).alloc (Nat.le_refl _) _).trans (hb1.mono (by simp))).setCell (p := ⟨w.heap.size, 0, none⟩) (Nat.le_refl _) _
  · have hl' : decide (100 < (l.length : Int)) = false := by simp; omega
    have hl2 : l.length ≤ 100 := by omega
    go_wp2_with (first
      | (go_at_call 4; refine HAW.out.mono ?_; rintro e w1 ⟨rfl, hb1⟩)
      | (go_at_call 5; refine (new_any _).mono ?_; rintro e w2 ⟨rfl, rfl⟩))
    have hbx := boxed_but hb6 (But.of_below (M := fun _ => False) hb1 (Nat.le_refl _)) (fun h => h)
    have hB1 : RowKit.Below w.heap.size w w1 := ((RowKit.Below.refl _ w).alloc (Nat.le_refl _) _).trans (hb1.mono (by simp))
    have hs1 : w.heap.size + 1 ≤ w1.heap.size := by have := hb1.size; simpa using this
    have hT0 : Tally ((w1.alloc (.map #[] 0)).alloc (.cells #[.map (some w1.heap.size)] 52)) (w1.heap.size + 1) w1.heap.size 0 (fun k => (rOf (l.take 0) k).map rowV) := by
      refine ⟨by simp, ?_⟩
      have := (TMap.made (P := Tryz.prog) (k0 := 9) w1).kept (World.grownBy_alloc (w1.alloc (.map #[] 0)) (.cells #[.map (some w1.heap.size)] 52) none) (by simp)
      simpa [rOf_nil] using this
    have hB2 : RowKit.Below w.heap.size w ((w1.alloc (.map #[] 0)).alloc (.cells #[.map (some w1.heap.size)] 52)) := (hB1.alloc (by omega) _).alloc (by simp; omega) _
    have hbx2 := (hbx.alloc (.map #[] 0)).alloc (.cells #[.map (some w1.heap.size)] 52)
    generalize hW2 : (w1.alloc (.map #[] 0)).alloc (.cells #[.map (some w1.heap.size)] 52) = W2 at hT0 hB2 hbx2 ⊢
    have HT0 := Lib.hid hT0
    clear hW2 hT0 hbx hB1 hb1 hb6 HAW
    go_loopw [23] (fun p wr => ∃ i : Nat, p = .int .i64 i ∧ i ≤ l.length ∧ Tally wr (w1.heap.size + 1) w1.heap.size i (fun k => (rOf (l.take i) k).map rowV) ∧ RowKit.Below w.heap.size w wr ∧ Boxed wr w.heap.size 4 (.bool false)) (fun p _ => l.length - (intOf p).toNat)
    case atStart => exact ⟨0, rfl, Nat.zero_le _, HT0.out, hB2, hbx2⟩
    case round =>
      obtain ⟨i, rfl, hi, hT, hB, hbx⟩ := hrel
      by_cases hlt : i < l.length
      · have hT' := Lib.hid hT
        have hX := (HA.out.below hB (Nat.le_refl _))
        rcases hX with e | ⟨b, off, rfl, hbl, hX⟩
        · exfalso; rw [e] at hlt; simp at hlt
        have hc1 := (hX i hlt).1
        have hc2 := (hX i hlt).2
        have hkl := HK.out l[i] (List.getElem_mem hlt)
        have hnl := HN.out l[i] (List.getElem_mem hlt)
        have hstep := Lib.hid (row_step (l.take i) l[i] (by simp; omega) hnl)
        have htk : l.take (i + 1) = l.take i ++ [l[i]] := List.take_succ_eq_append_getElem hlt
        have HTK := Lib.hid htk
        have HX := Lib.hid hX
        obtain ⟨x, hx⟩ : ∃ x, x = l[i] := ⟨_, rfl⟩
        rw [← hx] at hc1 hc2 hkl hnl hstep HTK
        obtain ⟨k, n⟩ := x
        have Hx := Lib.hid hx
        dsimp only at hc1 hc2 hkl hnl hstep
        clear hx htk hX hT
        have hTa := Lib.hid (hT'.out.but (But.alloc (fun _ => False) wr (.cells #[.string ⟨k.toArray⟩, .int .u64 (n : Int)] 28)) (fun h => h) (fun h => h))
        have hadd := Lib.hid (add_any (w1.heap.size + 1) w1.heap.size i n (rOf (l.take i)) k (wr.alloc (.cells #[.string ⟨k.toArray⟩, .int .u64 (n : Int)] 28)) hkl hnl (by simp [maxLen]; omega) hTa.out.cell (World.block_lt_of_cell? _ _ hTa.out.cell) hTa.out.map)
        have hblk := heap_new0 wr (.cells #[.string ⟨k.toArray⟩, .int .u64 (n : Int)] 28)
        have HB := Lib.hid hB
        have Hbx := Lib.hid hbx
        clear hB hbx hblk
        go_wp2_with (go_at_call 6; refine hadd.out.mono ?_; rintro e w3 ⟨rfl, hT3, hg3⟩)
        have hne : wr.heap.size ≠ w1.heap.size := by have := hT'.out.map.lt; omega
        have hc3 : w3.cell? ⟨wr.heap.size, 1, none⟩ = some (.int .u64 (n : Int)) := hg3.cell (a := ⟨wr.heap.size, 1, none⟩) (by rw [World.cell?, heap_new0]; rfl) (by simpa using hne)
        have HT3 := Lib.hid hT3
        have Hg3 := Lib.hid hg3
        clear hT3 hg3
        refine wp_region_noPanic ?_
        refine region_start (S := fun w' : World => w'.cell? ⟨wr.heap.size, 1, none⟩ = some (.int .u64 (n : Int))) 7 #[false, false, false, false, false, false, false] mixed rfl rfl ?_
        refine takeQ 0 #[true, false, false, false, false, false, false] (some 33) (v := .pointer (some ⟨wr.heap.size, 1, none⟩)) rfl (by kernel_rfl) (fun _ _ _ h => h) rfl (fun w' hw' => by go_simp) hc3 rfl rfl ?_
        simp only [Act.put, List.setIfInBounds_toArray, List.set_cons_zero, List.set_cons_succ]
        refine takeQ 1 #[true, true, false, false, false, false, false] (some 34) (v := .int .u64 (n : Int)) rfl (by kernel_rfl) (fun _ _ _ h => h) rfl (fun w' hw' => by have h : w'.cell? ⟨wr.heap.size, 1, none⟩ = some (.int .u64 (n : Int)) := hw'; clear hw'; go_simp) hc3 rfl rfl ?_
        simp only [Act.put, List.setIfInBounds_toArray, List.set_cons_zero, List.set_cons_succ]
        refine takeQ 3 #[true, true, false, true, false, false, false] (some 36) (v := .pointer (some ⟨wr.heap.size, 1, none⟩)) rfl (by kernel_rfl) (fun _ _ _ h => h) rfl (fun w' hw' => by go_simp) hc3 rfl rfl ?_
        simp only [Act.put, List.setIfInBounds_toArray, List.set_cons_zero, List.set_cons_succ]
        refine takeQ 4 #[true, true, false, true, true, false, false] (some 37) (v := .int .u64 (n : Int)) rfl (by kernel_rfl) (fun _ _ _ h => h) rfl (fun w' hw' => by have h : w'.cell? ⟨wr.heap.size, 1, none⟩ = some (.int .u64 (n : Int)) := hw'; clear hw'; go_simp) hc3 rfl rfl ?_
        simp only [Act.put, List.setIfInBounds_toArray, List.set_cons_zero, List.set_cons_succ]
        refine takeE 2 #[true, true, true, true, true, false, false] (some 35) (by kernel_rfl) rfl rfl rfl rfl fun K hK => ?_
        go_simp
        go_wp2_with (go_at_call 7; refine (cls n _ hnl).mono ?_; rintro e w' ⟨rfl, rfl⟩)
        refine hK _ _ hc3 ?_
        clear hK K
        simp only [Act.put, List.setIfInBounds_toArray, List.set_cons_zero, List.set_cons_succ]
        refine takeE 5 #[true, true, true, true, true, true, false] (some 38) (by kernel_rfl) rfl rfl rfl rfl fun K hK => ?_
        go_simp
        go_wp2_with (go_at_call 8; refine (rcls n _ hnl).mono ?_; rintro e w' ⟨rfl, rfl⟩)
        refine hK _ _ hc3 ?_
        clear hK K
        simp only [Act.put, List.setIfInBounds_toArray, List.set_cons_zero, List.set_cons_succ]
        refine takeQ 6 #[true, true, true, true, true, true, true] (some 39) (v := .bool false) rfl (by kernel_rfl) (fun _ _ _ h => h) rfl (fun w' hw' => by go_simp) hc3 rfl rfl ?_
        simp only [Act.put, List.setIfInBounds_toArray, List.set_cons_zero, List.set_cons_succ]
        refine wpAnyH_done (by kernel_rfl) ?_ _
        refine NoPanic.normal ?_
        go_wp2
        go_roundw
        case rel =>
          have hrow := hstep.out
          have hB3 : RowKit.Below w.heap.size w w3 := ((HB.out.alloc HB.out.size _)).grown Hg3.out (by simp; have := HB.out.size; omega) (fun k e => by cases e; omega)
          refine ⟨i + 1, by simp, by omega, ⟨?_, ?_⟩, hB3.drew, ?_⟩
          · exact Hg3.out.cell hTa.out.cell (by simp)
          · have h := HT3.out
            rw [hrow] at h
            rw [HTK.out]
            exact h
          · have q : Boxed w3 w.heap.size 4 (.bool false) := (Hbx.out.alloc _).kept Hg3.out (fun e => by have := Option.some.inj e; omega)
            exact q
        case measure => simp [intOf]; omega
      · obtain rfl : i = l.length := by omega
        rw [List.take_length] at hT
        have hLs := Lib.hid (lists_o a cap l wr hl2 (HA.out.below hB (Nat.le_refl _)) HK.out HN.out)
        have HT := Lib.hid hT
        have HB := Lib.hid hB
        have Hbx := Lib.hid hbx
        clear hT hB hbx
        go_wp2_with (first
          | (go_at_call 9; refine hLs.out.mono ?_; rintro e w3 ⟨rfl, ⟨vs, hW⟩, hb3⟩; have hWt := hW.1; obtain ⟨D, hown, hD⟩ := hWt)
          | (at_range; refine wpList_range_own _ rfl _ 31 rfl 9 33 (string_keyed Tryz.underlying9) Tryz.underlying31 hd wr.heap.size l.length D rfl hown ?_; intro w4 hrg0 hg0 hs0))
        go_frame
        have hT3 : Tally w3 (w1.heap.size + 1) w1.heap.size l.length (fun k => (rOf l k).map rowV) := HT.out.but (.of_below (M := fun _ => False) hb3 (Nat.le_refl _)) (fun h => h) (fun h => h)
        have hSl : w1.heap.size + 1 < w3.heap.size := World.block_lt_of_cell? w3 _ hT3.cell
        have hB3 : RowKit.Below w.heap.size w w3 := HB.out.trans (hb3.mono HB.out.size)
        have hbx3 : Boxed w3 w.heap.size 4 (.bool false) := boxed_but Hbx.out (.of_below (M := fun _ => False) hb3 (Nat.le_refl _)) (fun h => h)
        have hg4 : RowKit.Below w3.heap.size w3 w4 := (RowKit.Below.refl _ w3).grown hg0 (Nat.le_refl _) (fun k e => by cases e)
        have hwr : wr.heap.size < w3.heap.size := hW.1.lt
        have HT3 := Lib.hid hT3
        have HB3 := Lib.hid hB3
        have Hbx3 := Lib.hid hbx3
        have HW := Lib.hid hW
        have HD := Lib.hid hD
        have Hg4 := Lib.hid hg4
        have Hrg := Lib.hid hrg0
        clear hT3 hB3 hbx3 hW hD hg4 hown hrg0 hg0 hs0 hb3 Hbx HB HT hLs
        generalize wr.heap.size = G at Hrg HW hwr ⊢
        go_loopw [11] (fun _ wq => ∃ (left : Lit → Bool) (cnt : Nat), wq.ranges Tryz.prog 9 hd G w3.heap.size l.length D left cnt ∧ RowKit.Below w3.heap.size w3 wq) (fun _ wq => wq.rangeLeft G w3.heap.size)
        case atStart => exact ⟨_, _, Hrg.out, Hg4.out⟩
        case round =>
          obtain ⟨left, cnt, hrg, hBq⟩ := hrel
          try clear hi hlt
          have HBq := Lib.hid hBq
          have Hrq := Lib.hid hrg
          clear hBq hrg
          go_wp2_with (at_next; refine wpList_next_ranges _ rfl _ rfl 9 (string_keyed Tryz.underlying9) hd (fun x : List UInt8 => .string ⟨x.toArray⟩) (fun v : Value => v) (fun key kl hk => by obtain ⟨x, h1, _⟩ := Maps.keyOf_str Tryz.underlying9 hk; exact ⟨x, h1⟩) (fun v y h => ⟨v, rfl⟩) G w3.heap.size l.length D left cnt rfl Hrq.out ?_ ?_)
          · intro hc0 hl0
            have HE := Lib.hid (show EmptyI ((wr.alloc (.map #[] 0)).alloc (.cells #[.map (some wr.heap.size)] 58)) (some ⟨wr.heap.size + 1, 0, none⟩) from .inr ⟨_, wr.heap.size, rfl, by simp, (Below.heap_alloc _ _ _ (by simp)).trans (heap_new0 _ _)⟩)
            clear hl0
            go_wp2_with (first
              | (go_at_call 13; refine (add_nil _).mono ?_; rintro e wz ⟨rfl, rfl⟩)
              | (go_at_call 15; refine (new_int _).mono ?_; rintro e w7 ⟨rfl, rfl⟩)
              | (go_at_call 14; refine (merge_nil _ _ HE.out).mono ?_; rintro e w8 ⟨rfl, hb8⟩)
              | (go_at_call 16; refine ((callsIn_wide (n := 0)).1 (iall_any none _)).mono ?_; rintro e w7 ⟨rfl, rfl⟩))
            have hBr : RowKit.Below w3.heap.size w3 wz := HBq.out
            have q1 : RowKit.Below wz.heap.size wz ((wz.alloc (.map #[] 0)).alloc (.cells #[.map (some wz.heap.size)] 58)) := ((RowKit.Below.refl _ wz).alloc (Nat.le_refl _) _).alloc (by simp) _
            have q2 : RowKit.Below wz.heap.size wz w8 := q1.trans (hb8.mono q1.size)
            have hw38 : RowKit.Below w3.heap.size w3 (w8.alloc (.cells #[.pointer none] 40)) := hBr.trans ((q2.alloc q2.size _).mono hBr.size)
            clear q1 q2
            have cbx : (w8.alloc (.cells #[.pointer none] 40)).cell? ⟨w8.heap.size, 0, none⟩ = some (.pointer none) := by simp
            have hs8 : (w8.alloc (.cells #[.pointer none] 40)).heap.size = w8.heap.size + 1 := by simp
            generalize hW9 : w8.alloc (.cells #[.pointer none] 40) = W9 at hw38 cbx hs8 ⊢
            have Hw38 := Lib.hid hw38
            have Hs8 := Lib.hid hs8
            have Hcbx := Lib.hid cbx
            clear hw38 hs8 cbx hb8 hW9 hBr
            refine (wpIn_wide (n := 0)).1 ?_
            refine wpIn_rangeFunc_all (α := Unit) (gf := 24) (lb := #[.pointer (some ⟨w8.heap.size, 0, none⟩)]) rfl (enters_of Tryz.func24 (by kernel_rfl) rfl) (iall1_runs w8.heap.size none) (fun _ => rfl) (fun _ => False) (fun k hk => hk.elim)
              (fun w' hw' => ⟨(hw'.cell (p := ⟨w8.heap.size, 0, none⟩) (by have := Hs8.out; simp; omega)).trans Hcbx.out, .inl rfl⟩)
              (fun pre W' => pre = [] ∧ RowKit.Below w3.heap.size w3 W')
              (fun s A B hs hab => ⟨hs.1, hs.2.trans (hab.mono Hw38.out.size)⟩)
              ⟨rfl, Hw38.out⟩ ?round4 ?done4
            case round4 =>
              intro l2 pre x post W1 _ hx
              simp at hx
            case done4 =>
              rintro Wa ⟨_, hBa⟩ _ hK
              have hbx9 : Boxed Wa w.heap.size 4 (.bool false) := boxed_but Hbx3.out (.of_below (M := fun _ => False) hBa (Nat.le_refl _)) (fun h => h)
              have HK2 := Lib.hid hK
              have hz := zero36
              clear hK
              go_wp2_with (refine wpList_store_row rfl 36 _ _ rfl Wa.heap.size (rowA fun _ => 0) rfl rfl 36 (rowA fun _ => 0) (heap_new0 _ _) (by rw [rowA_size]; exact size36) rfl (rowA_one _) ?_; rw [World.setRow_alloc_new])
              obtain ⟨kk, hkk⟩ : ∃ kk : List UInt8, kk = [110, 111, 32, 115, 117, 99, 104, 32, 107, 101, 121] := ⟨_, rfl⟩
              have hBb : RowKit.Below w3.heap.size w3 (Wa.alloc (.cells (rowA fun _ => 0) 36)) := hBa.alloc hBa.size _
              have h14 := heap_new0 Wa (.cells (rowA fun _ => 0) 36)
              have hkd := (Below.heap_alloc Wa (.cells (rowA fun _ => 0) 36) _ (Array.getElem?_eq_some_iff.1 HK2.out).1).trans HK2.out
              have bxb := hbx9.alloc (.cells (rowA fun _ => 0) 36)
              have hNa : w.heap.size < w3.heap.size := Hbx3.out.lt
              have n14 := Lib.hid (show ¬ Wa.heap.size = w.heap.size by have := hBa.size; omega)
              have hW93 := Hw38.out.size
              have n9 := Lib.hid (show ¬ W9.heap.size = w.heap.size by omega)
              have n9l := Lib.hid (show w.heap.size ≤ W9.heap.size by omega)
              have hBw := HB3.out.trans (hBb.mono HB3.out.size)
              generalize Wa.alloc (.cells (rowA fun _ => 0) 36) = Wb at hBb h14 hkd bxb hBw ⊢
              have HBw := Lib.hid hBw
              have HKd := Lib.hid hkd
              have hGN : ¬ G = w.heap.size := fun e => by
                obtain ⟨D', ⟨es, clk, hm, _⟩, _⟩ := HW.out.1
                have h1 : w3.heap[w.heap.size]? = _ := Hbx3.out
                rw [e, h1] at hm; cases hm
              have hTb := HT3.out.but (.of_below (M := fun _ => False) hBb (Nat.le_refl _)) (fun h => h) (fun h => h)
              have hWb := HW.out.below hBb (Nat.le_refl _)
              have hTd : Tally Wb.drew (w1.heap.size + 1) w1.heap.size l.length (fun k => (rOf l k).map rowV) := ⟨hTb.cell, hTb.map⟩
              have hWd : WInv Wb.drew G (G + 1) l vs := hWb.below (RowKit.Below.refl _ Wb).drew (Nat.le_refl _)
              have HIs := Lib.hid (is_any (w1.heap.size + 1) w1.heap.size G (G + 1) l vs Wb.drew hTd hWd hl2 HK.out HN.out)
              have HM := Lib.hid (fun (W' : World) (h : But (fun k => k = w.heap.size) Wb W') => hWb.1.block (h.block _ hWb.1.lt hGN))
              have HOf := Lib.hid (fun (W' : World) (h : But (fun k => k = w.heap.size) Wb W') => by
                have hT' := hTb.but h (by omega) (by omega)
                exact of_any (w1.heap.size + 1) w1.heap.size l.length (rOf l) kk W' (by rw [hkk]; simp [maxLen]) hT'.cell (World.block_lt_of_cell? W' _ hT'.cell) hT'.map)
              have KL := Lib.hid (show kk.length ≤ maxLen by rw [hkk]; simp [maxLen])
              have hS0 : But (fun k => k = w.heap.size) Wb Wb.drew := .drew _ _
              have HWb := Lib.hid hWb
              have Hkk := Lib.hid hkk
              clear hBb hBw hkd hTb hWb hTd hWd hBa hbx9 hW93 hNa hGN
              by_cases hv0 : vals l kk = []
              · have hvs : vs kk = none := (HW.out.2.1 kk).2 hv0
                obtain ⟨vk, hvk⟩ : ∃ vk : Value, vk = .slice none 0 0 := ⟨_, rfl⟩
                have HVK := Lib.hid (show (vs kk).getD (.slice none 0 0) = vk by rw [hvs, hvk]; rfl)
                obtain ⟨nk, hnk⟩ : ∃ nk : Nat, nk = 0 := ⟨_, rfl⟩
                have HNK := Lib.hid (show ∃ a c, vk = .slice a nk c from ⟨none, 0, by rw [hvk, hnk]⟩)
                have HZ := Lib.hid (show ((nk : Int) == 0) = true by rw [hnk]; rfl)
                have hr : rOf l kk = none := by simp [rOf, hv0]
                rw [hr] at HOf
                simp only [Option.getD_none] at HOf
                clear hv0 hvs hvk hnk hr
                subst kk
                refine wp_region_noPanic ?_
                refine region_start (S := But (fun k => k = w.heap.size) Wb) 21 #[false, false, false, false, false, false, false, false, false, false, false, false, false, false, false, false, false, false, false, false, false] mixed rfl rfl ?_
                refine takeQ 0 #[true, false, false, false, false, false, false, false, false, false, false, false, false, false, false, false, false, false, false, false, false] (some 71) (v := .pointer (some ⟨w1.heap.size + 1, 0, none⟩)) rfl (by kernel_rfl) (fun _ _ _ h => h) rfl (fun w' hw' => rfl) hS0 rfl rfl ?_
                simp only [Act.put, List.setIfInBounds_toArray, List.set_cons_zero, List.set_cons_succ]
                refine takeQ 1 #[true, true, false, false, false, false, false, false, false, false, false, false, false, false, false, false, false, false, false, false, false] (some 72) (v := .map (some G)) rfl (by kernel_rfl) (fun _ _ _ h => h) rfl (fun w' hw' => rfl) hS0 rfl rfl ?_
                simp only [Act.put, List.setIfInBounds_toArray, List.set_cons_zero, List.set_cons_succ]
                refine takeE 2 #[true, true, true, false, false, false, false, false, false, false, false, false, false, false, false, false, false, false, false, false, false] (some 73) (by kernel_rfl) rfl rfl rfl rfl fun K hK => ?_
                go_simp
                go_wp2_with (go_at_call 17; refine HIs.out.mono ?_; rintro e w5 ⟨rfl, hb5⟩)
                have hb5' : RowKit.Below Wb.heap.size Wb w5 := (RowKit.Below.refl _ Wb).drew.trans hb5
                have hS5 : But (fun k => k = w.heap.size) Wb w5 := .of_below hb5' (Nat.le_refl _)
                have bx5 : Boxed w5 w.heap.size 4 (.bool false) := (hb5'.block _ bxb.lt).trans bxb
                refine hK _ _ hS5 ?_
                clear hK K
                simp only [Act.put, List.setIfInBounds_toArray, List.set_cons_zero, List.set_cons_succ]
                refine takeQ 3 #[true, true, true, true, false, false, false, false, false, false, false, false, false, false, false, false, false, false, false, false, false] (some 74) (v := .bool true) rfl (by kernel_rfl) (fun _ _ _ h => h) rfl (fun w' hw' => rfl) hS5 rfl rfl ?_
                simp only [Act.put, List.setIfInBounds_toArray, List.set_cons_zero, List.set_cons_succ]
                refine takeQ 4 #[true, true, true, true, true, false, false, false, false, false, false, false, false, false, false, false, false, false, false, false, false] (some 75) (v := .pointer (some ⟨w1.heap.size + 1, 0, none⟩)) rfl (by kernel_rfl) (fun _ _ _ h => h) rfl (fun w' hw' => rfl) hS5 rfl rfl ?_
                simp only [Act.put, List.setIfInBounds_toArray, List.set_cons_zero, List.set_cons_succ]
                refine takeQ 6 #[true, true, true, true, true, false, true, false, false, false, false, false, false, false, false, false, false, false, false, false, false] (some 77) (v := .agg (rowA fun _ => 0)) rfl (by kernel_rfl) (fun _ _ _ h => h) rfl (fun w' hw' => exec_load_row 36 _ rfl Wa.heap.size rfl 36 _ (0, 0) _ (hw'.heap h14 n14.out) Tryz.underlying36 rfl (by rw [rowA_size]; exact size36)) hS5 rfl rfl ?_
                simp only [Act.put, List.setIfInBounds_toArray, List.set_cons_zero, List.set_cons_succ]
                refine takeQ 8 #[true, true, true, true, true, false, true, false, true, false, false, false, false, false, false, false, false, false, false, false, false] (some 79) (v := .map (some G)) rfl (by kernel_rfl) (fun _ _ _ h => h) rfl (fun w' hw' => rfl) hS5 rfl rfl ?_
                simp only [Act.put, List.setIfInBounds_toArray, List.set_cons_zero, List.set_cons_succ]
                refine takeQ 9 #[true, true, true, true, true, false, true, false, true, true, false, false, false, false, false, false, false, false, false, false, false] (some 80) (v := vk) rfl (by kernel_rfl) (fun _ _ _ h => h) rfl (fun w' hw' => exec_lookup_T _ _ rfl (HM.out w' hw') Tryz.underlying9 Tryz.underlying31 (zero33 _) [110, 111, 32, 115, 117, 99, 104, 32, 107, 101, 121] KL.out vk HVK.out rfl rfl) hS5 rfl rfl ?_
                simp only [Act.put, List.setIfInBounds_toArray, List.set_cons_zero, List.set_cons_succ]
                refine takeQ 10 #[true, true, true, true, true, false, true, false, true, true, true, false, false, false, false, false, false, false, false, false, false] (some 81) (v := .int .i64 (nk : Nat)) rfl (by kernel_rfl) (fun _ _ _ h => h) rfl (fun w' hw' => len_op _ 33 rfl (by exact HNK.out)) hS5 rfl rfl ?_
                simp only [Act.put, List.setIfInBounds_toArray, List.set_cons_zero, List.set_cons_succ]
                refine takeQ 11 #[true, true, true, true, true, false, true, false, true, true, true, true, false, false, false, false, false, false, false, false, false] (some 82) (v := .bool true) rfl (by kernel_rfl) (fun _ _ _ h => h) rfl (fun w' hw' => by have h := HZ.out; go_simp) hS5 rfl rfl ?_
                simp only [Act.put, List.setIfInBounds_toArray, List.set_cons_zero, List.set_cons_succ]
                refine takeE 5 #[true, true, true, true, true, true, true, false, true, true, true, true, false, false, false, false, false, false, false, false, false] (some 76) (by kernel_rfl) rfl rfl rfl rfl fun K hK => ?_
                go_simp
                go_wp2_with (go_at_call 10; refine (HOf.out _ hS5).mono ?_; rintro e w6 ⟨rfl, hb6⟩)
                have hS6 : But (fun k => k = w.heap.size) Wb w6 := hS5.trans (.of_below hb6 (Nat.le_refl _))
                have bx6 : Boxed w6 w.heap.size 4 (.bool false) := (hb6.block _ bx5.lt).trans bx5
                refine hK _ _ hS6 ?_
                clear hK K
                simp only [Act.put, List.setIfInBounds_toArray, List.set_cons_zero, List.set_cons_succ]
                refine takeQ 7 #[true, true, true, true, true, true, true, true, true, true, true, true, false, false, false, false, false, false, false, false, false] (some 78) (v := .bool true) rfl (by kernel_rfl) (fun _ _ _ h => h) rfl (fun w' hw' => eqlT_op _ _ _ rfl rfl rfl) hS6 rfl rfl ?_
                simp only [Act.put, List.setIfInBounds_toArray, List.set_cons_zero, List.set_cons_succ]
                refine takeQ 12 #[true, true, true, true, true, true, true, true, true, true, true, true, true, false, false, false, false, false, false, false, false] (some 83) (v := .bool true) rfl (by kernel_rfl) (fun _ _ _ h => h) rfl (fun w' hw' => by go_simp) hS6 rfl rfl ?_
                simp only [Act.put, List.setIfInBounds_toArray, List.set_cons_zero, List.set_cons_succ]
                refine takeQ 13 #[true, true, true, true, true, true, true, true, true, true, true, true, true, true, false, false, false, false, false, false, false] (some 84) (v := .bool true) rfl (by kernel_rfl) (fun _ _ _ h => h) rfl (fun w' hw' => by go_simp) hS6 rfl rfl ?_
                simp only [Act.put, List.setIfInBounds_toArray, List.set_cons_zero, List.set_cons_succ]
                refine takeQ 14 #[true, true, true, true, true, true, true, true, true, true, true, true, true, true, true, false, false, false, false, false, false] (some 85) (v := .bool true) rfl (by kernel_rfl) (fun _ _ _ h => h) rfl (fun w' hw' => rfl) hS6 rfl rfl ?_
                simp only [Act.put, List.setIfInBounds_toArray, List.set_cons_zero, List.set_cons_succ]
                refine takeQ 15 #[true, true, true, true, true, true, true, true, true, true, true, true, true, true, true, true, false, false, false, false, false] (some 86) (v := .pointer none) rfl (by kernel_rfl) (fun _ _ _ h => h) rfl (fun w' hw' => rfl) hS6 rfl rfl ?_
                simp only [Act.put, List.setIfInBounds_toArray, List.set_cons_zero, List.set_cons_succ]
                refine takeQ 17 #[true, true, true, true, true, true, true, true, true, true, true, true, true, true, true, true, false, true, false, false, false] (some 88) (v := .agg (rowA fun _ => 0)) rfl (by kernel_rfl) (fun _ _ _ h => h) rfl (fun w' hw' => exec_load_row 36 _ rfl Wa.heap.size rfl 36 _ (0, 0) _ (hw'.heap h14 n14.out) Tryz.underlying36 rfl (by rw [rowA_size]; exact size36)) hS6 rfl rfl ?_
                simp only [Act.put, List.setIfInBounds_toArray, List.set_cons_zero, List.set_cons_succ]
                refine takeE 16 #[true, true, true, true, true, true, true, true, true, true, true, true, true, true, true, true, true, true, false, false, false] (some 87) (by kernel_rfl) rfl rfl rfl rfl fun K hK => ?_
                go_simp
                go_wp2_with (go_at_call 18; refine (of_nil _).mono ?_; rintro e w7 ⟨rfl, hb7⟩)
                have hS7 : But (fun k => k = w.heap.size) Wb w7 := hS6.trans (.of_below hb7 (Nat.le_refl _))
                have bx7 : Boxed w7 w.heap.size 4 (.bool false) := (hb7.block _ bx6.lt).trans bx6
                refine hK _ _ hS7 ?_
                clear hK K
                simp only [Act.put, List.setIfInBounds_toArray, List.set_cons_zero, List.set_cons_succ]
                refine takeQ 18 #[true, true, true, true, true, true, true, true, true, true, true, true, true, true, true, true, true, true, true, false, false] (some 89) (v := .bool true) rfl (by kernel_rfl) (fun _ _ _ h => h) rfl (fun w' hw' => eqlT_op _ _ _ rfl rfl rfl) hS7 rfl rfl ?_
                simp only [Act.put, List.setIfInBounds_toArray, List.set_cons_zero, List.set_cons_succ]
                refine takeQ 19 #[true, true, true, true, true, true, true, true, true, true, true, true, true, true, true, true, true, true, true, true, false] (some 90) (v := .bool true) rfl (by kernel_rfl) (fun _ _ _ h => h) rfl (fun w' hw' => by go_simp) hS7 rfl rfl ?_
                simp only [Act.put, List.setIfInBounds_toArray, List.set_cons_zero, List.set_cons_succ]
                refine takeE 20 #[true, true, true, true, true, true, true, true, true, true, true, true, true, true, true, true, true, true, true, true, true] none (by kernel_rfl) rfl rfl rfl rfl fun K hK => ?_
                have c7 := bx7.cell
                have f7 := bx7.frozen
                go_simp
                have hS8 := hS7.trans (But.setCell (fun k => k = w.heap.size) w7 ⟨w.heap.size, 0, none⟩ (.bool true) rfl)
                have bx8 := bx7.set (.bool true)
                refine hK undef _ hS8 ?_
                clear hK K
                refine wpAnyH_done (by kernel_rfl) ?_ _
                refine NoPanic.normal ?_
                go_wp2
                refine ⟨by simp, .inl ⟨_, _, rfl, run_takeDeferred ?_, ?_⟩⟩
                · exact hS8.heap (HKd.out) n9.out
                refine ⟨.bool true, res3 _ w.heap.size _ rfl ?_, rfl, ?_⟩
                · exact boxed_put bx8 n9.out
                · exact fin_below HBw.out hS8 n9l.out
              · obtain ⟨g, cp, hvs, _, _, _⟩ := HW.out.row hv0
                obtain ⟨vk, hvk⟩ : ∃ vk : Value, vk = .slice (some ⟨g, 0, none⟩) (vals l kk).length cp := ⟨_, rfl⟩
                have HVK := Lib.hid (show (vs kk).getD (.slice none 0 0) = vk by rw [hvs, hvk]; rfl)
                obtain ⟨nk, hnk⟩ : ∃ nk : Nat, nk = (vals l kk).length := ⟨_, rfl⟩
                have HNK := Lib.hid (show ∃ a c, vk = .slice a nk c from ⟨_, _, by rw [hvk, hnk]⟩)
                have hn0 : 0 < nk := by rw [hnk]; exact List.length_pos_iff.2 hv0
                have HZ := Lib.hid (show ((nk : Int) == 0) = false by rw [beq_eq_false_iff_ne]; omega)
                have hr : rOf l kk = some (specF (vals l kk)) := by simp [rOf, hv0]
                rw [hr] at HOf
                simp only [Option.getD_some] at HOf
                have HF0 := Lib.hid (show specF (vals l kk) 0 ≠ (fun _ => 0 : Nat → Nat) 0 by simp [specF]; exact hv0)
                generalize specF (vals l kk) = F0 at HOf HF0
                clear hv0 hvs hvk hnk hr hn0
                subst kk
                refine wp_region_noPanic ?_
                refine region_start (S := But (fun k => k = w.heap.size) Wb) 21 #[false, false, false, false, false, false, false, false, false, false, false, false, false, false, false, false, false, false, false, false, false] mixed rfl rfl ?_
                refine takeQ 0 #[true, false, false, false, false, false, false, false, false, false, false, false, false, false, false, false, false, false, false, false, false] (some 71) (v := .pointer (some ⟨w1.heap.size + 1, 0, none⟩)) rfl (by kernel_rfl) (fun _ _ _ h => h) rfl (fun w' hw' => rfl) hS0 rfl rfl ?_
                simp only [Act.put, List.setIfInBounds_toArray, List.set_cons_zero, List.set_cons_succ]
                refine takeQ 1 #[true, true, false, false, false, false, false, false, false, false, false, false, false, false, false, false, false, false, false, false, false] (some 72) (v := .map (some G)) rfl (by kernel_rfl) (fun _ _ _ h => h) rfl (fun w' hw' => rfl) hS0 rfl rfl ?_
                simp only [Act.put, List.setIfInBounds_toArray, List.set_cons_zero, List.set_cons_succ]
                refine takeE 2 #[true, true, true, false, false, false, false, false, false, false, false, false, false, false, false, false, false, false, false, false, false] (some 73) (by kernel_rfl) rfl rfl rfl rfl fun K hK => ?_
                go_simp
                go_wp2_with (go_at_call 17; refine HIs.out.mono ?_; rintro e w5 ⟨rfl, hb5⟩)
                have hb5' : RowKit.Below Wb.heap.size Wb w5 := (RowKit.Below.refl _ Wb).drew.trans hb5
                have hS5 : But (fun k => k = w.heap.size) Wb w5 := .of_below hb5' (Nat.le_refl _)
                have bx5 : Boxed w5 w.heap.size 4 (.bool false) := (hb5'.block _ bxb.lt).trans bxb
                refine hK _ _ hS5 ?_
                clear hK K
                simp only [Act.put, List.setIfInBounds_toArray, List.set_cons_zero, List.set_cons_succ]
                refine takeQ 3 #[true, true, true, true, false, false, false, false, false, false, false, false, false, false, false, false, false, false, false, false, false] (some 74) (v := .bool true) rfl (by kernel_rfl) (fun _ _ _ h => h) rfl (fun w' hw' => rfl) hS5 rfl rfl ?_
                simp only [Act.put, List.setIfInBounds_toArray, List.set_cons_zero, List.set_cons_succ]
                refine takeQ 4 #[true, true, true, true, true, false, false, false, false, false, false, false, false, false, false, false, false, false, false, false, false] (some 75) (v := .pointer (some ⟨w1.heap.size + 1, 0, none⟩)) rfl (by kernel_rfl) (fun _ _ _ h => h) rfl (fun w' hw' => rfl) hS5 rfl rfl ?_
                simp only [Act.put, List.setIfInBounds_toArray, List.set_cons_zero, List.set_cons_succ]
                refine takeQ 6 #[true, true, true, true, true, false, true, false, false, false, false, false, false, false, false, false, false, false, false, false, false] (some 77) (v := .agg (rowA fun _ => 0)) rfl (by kernel_rfl) (fun _ _ _ h => h) rfl (fun w' hw' => exec_load_row 36 _ rfl Wa.heap.size rfl 36 _ (0, 0) _ (hw'.heap h14 n14.out) Tryz.underlying36 rfl (by rw [rowA_size]; exact size36)) hS5 rfl rfl ?_
                simp only [Act.put, List.setIfInBounds_toArray, List.set_cons_zero, List.set_cons_succ]
                refine takeQ 8 #[true, true, true, true, true, false, true, false, true, false, false, false, false, false, false, false, false, false, false, false, false] (some 79) (v := .map (some G)) rfl (by kernel_rfl) (fun _ _ _ h => h) rfl (fun w' hw' => rfl) hS5 rfl rfl ?_
                simp only [Act.put, List.setIfInBounds_toArray, List.set_cons_zero, List.set_cons_succ]
                refine takeQ 9 #[true, true, true, true, true, false, true, false, true, true, false, false, false, false, false, false, false, false, false, false, false] (some 80) (v := vk) rfl (by kernel_rfl) (fun _ _ _ h => h) rfl (fun w' hw' => exec_lookup_T _ _ rfl (HM.out w' hw') Tryz.underlying9 Tryz.underlying31 (zero33 _) [110, 111, 32, 115, 117, 99, 104, 32, 107, 101, 121] KL.out vk HVK.out rfl rfl) hS5 rfl rfl ?_
                simp only [Act.put, List.setIfInBounds_toArray, List.set_cons_zero, List.set_cons_succ]
                refine takeQ 10 #[true, true, true, true, true, false, true, false, true, true, true, false, false, false, false, false, false, false, false, false, false] (some 81) (v := .int .i64 (nk : Nat)) rfl (by kernel_rfl) (fun _ _ _ h => h) rfl (fun w' hw' => len_op _ 33 rfl (by exact HNK.out)) hS5 rfl rfl ?_
                simp only [Act.put, List.setIfInBounds_toArray, List.set_cons_zero, List.set_cons_succ]
                refine takeQ 11 #[true, true, true, true, true, false, true, false, true, true, true, true, false, false, false, false, false, false, false, false, false] (some 82) (v := .bool false) rfl (by kernel_rfl) (fun _ _ _ h => h) rfl (fun w' hw' => by have h := HZ.out; go_simp) hS5 rfl rfl ?_
                simp only [Act.put, List.setIfInBounds_toArray, List.set_cons_zero, List.set_cons_succ]
                refine takeE 5 #[true, true, true, true, true, true, true, false, true, true, true, true, false, false, false, false, false, false, false, false, false] (some 76) (by kernel_rfl) rfl rfl rfl rfl fun K hK => ?_
                go_simp
                go_wp2_with (go_at_call 10; refine (HOf.out _ hS5).mono ?_; rintro e w6 ⟨rfl, hb6⟩)
                have hS6 : But (fun k => k = w.heap.size) Wb w6 := hS5.trans (.of_below hb6 (Nat.le_refl _))
                have bx6 : Boxed w6 w.heap.size 4 (.bool false) := (hb6.block _ bx5.lt).trans bx5
                refine hK _ _ hS6 ?_
                clear hK K
                simp only [Act.put, List.setIfInBounds_toArray, List.set_cons_zero, List.set_cons_succ]
                refine takeQ 7 #[true, true, true, true, true, true, true, true, true, true, true, true, false, false, false, false, false, false, false, false, false] (some 78) (v := .bool false) rfl (by kernel_rfl) (fun _ _ _ h => h) rfl (fun w' hw' => eqlF_op _ _ _ rfl rfl rfl HF0.out) hS6 rfl rfl ?_
                simp only [Act.put, List.setIfInBounds_toArray, List.set_cons_zero, List.set_cons_succ]
                refine takeQ 12 #[true, true, true, true, true, true, true, true, true, true, true, true, true, false, false, false, false, false, false, false, false] (some 83) (v := .bool true) rfl (by kernel_rfl) (fun _ _ _ h => h) rfl (fun w' hw' => by go_simp) hS6 rfl rfl ?_
                simp only [Act.put, List.setIfInBounds_toArray, List.set_cons_zero, List.set_cons_succ]
                refine takeQ 13 #[true, true, true, true, true, true, true, true, true, true, true, true, true, true, false, false, false, false, false, false, false] (some 84) (v := .bool true) rfl (by kernel_rfl) (fun _ _ _ h => h) rfl (fun w' hw' => by go_simp) hS6 rfl rfl ?_
                simp only [Act.put, List.setIfInBounds_toArray, List.set_cons_zero, List.set_cons_succ]
                refine takeQ 14 #[true, true, true, true, true, true, true, true, true, true, true, true, true, true, true, false, false, false, false, false, false] (some 85) (v := .bool true) rfl (by kernel_rfl) (fun _ _ _ h => h) rfl (fun w' hw' => rfl) hS6 rfl rfl ?_
                simp only [Act.put, List.setIfInBounds_toArray, List.set_cons_zero, List.set_cons_succ]
                refine takeQ 15 #[true, true, true, true, true, true, true, true, true, true, true, true, true, true, true, true, false, false, false, false, false] (some 86) (v := .pointer none) rfl (by kernel_rfl) (fun _ _ _ h => h) rfl (fun w' hw' => rfl) hS6 rfl rfl ?_
                simp only [Act.put, List.setIfInBounds_toArray, List.set_cons_zero, List.set_cons_succ]
                refine takeQ 17 #[true, true, true, true, true, true, true, true, true, true, true, true, true, true, true, true, false, true, false, false, false] (some 88) (v := .agg (rowA fun _ => 0)) rfl (by kernel_rfl) (fun _ _ _ h => h) rfl (fun w' hw' => exec_load_row 36 _ rfl Wa.heap.size rfl 36 _ (0, 0) _ (hw'.heap h14 n14.out) Tryz.underlying36 rfl (by rw [rowA_size]; exact size36)) hS6 rfl rfl ?_
                simp only [Act.put, List.setIfInBounds_toArray, List.set_cons_zero, List.set_cons_succ]
                refine takeE 16 #[true, true, true, true, true, true, true, true, true, true, true, true, true, true, true, true, true, true, false, false, false] (some 87) (by kernel_rfl) rfl rfl rfl rfl fun K hK => ?_
                go_simp
                go_wp2_with (go_at_call 18; refine (of_nil _).mono ?_; rintro e w7 ⟨rfl, hb7⟩)
                have hS7 : But (fun k => k = w.heap.size) Wb w7 := hS6.trans (.of_below hb7 (Nat.le_refl _))
                have bx7 : Boxed w7 w.heap.size 4 (.bool false) := (hb7.block _ bx6.lt).trans bx6
                refine hK _ _ hS7 ?_
                clear hK K
                simp only [Act.put, List.setIfInBounds_toArray, List.set_cons_zero, List.set_cons_succ]
                refine takeQ 18 #[true, true, true, true, true, true, true, true, true, true, true, true, true, true, true, true, true, true, true, false, false] (some 89) (v := .bool true) rfl (by kernel_rfl) (fun _ _ _ h => h) rfl (fun w' hw' => eqlT_op _ _ _ rfl rfl rfl) hS7 rfl rfl ?_
                simp only [Act.put, List.setIfInBounds_toArray, List.set_cons_zero, List.set_cons_succ]
                refine takeQ 19 #[true, true, true, true, true, true, true, true, true, true, true, true, true, true, true, true, true, true, true, true, false] (some 90) (v := .bool true) rfl (by kernel_rfl) (fun _ _ _ h => h) rfl (fun w' hw' => by go_simp) hS7 rfl rfl ?_
                simp only [Act.put, List.setIfInBounds_toArray, List.set_cons_zero, List.set_cons_succ]
                refine takeE 20 #[true, true, true, true, true, true, true, true, true, true, true, true, true, true, true, true, true, true, true, true, true] none (by kernel_rfl) rfl rfl rfl rfl fun K hK => ?_
                have c7 := bx7.cell
                have f7 := bx7.frozen
                go_simp
                have hS8 := hS7.trans (But.setCell (fun k => k = w.heap.size) w7 ⟨w.heap.size, 0, none⟩ (.bool true) rfl)
                have bx8 := bx7.set (.bool true)
                refine hK undef _ hS8 ?_
                clear hK K
                refine wpAnyH_done (by kernel_rfl) ?_ _
                refine NoPanic.normal ?_
                go_wp2
                refine ⟨by simp, .inl ⟨_, _, rfl, run_takeDeferred ?_, ?_⟩⟩
                · exact hS8.heap (HKd.out) n9.out
                refine ⟨.bool true, res3 _ w.heap.size _ rfl ?_, rfl, ?_⟩
                · exact boxed_put bx8 n9.out
                · exact fin_below HBw.out hS8 n9l.out
          · intro x v kl y ps wn cntn hkey hlk hv hps hat hrgn hltn hgn hsn hen
            obtain ⟨x', e1, rfl, hxl⟩ := Maps.keyOf_str Tryz.underlying9 hkey
            obtain rfl : x = x' := by simpa [Go.Proofs.encStr] using e1
            subst hv
            have hvs : vs x = some v := by
              cases hq : vs x with
              | none =>
                have h1 := (HD.out x .nil).symm.trans (hat .nil)
                rw [hq] at h1; cases h1
              | some u =>
                have h1 := (HD.out x .nil).symm.trans (hat .nil)
                rw [hq] at h1; cases h1; rfl
            have hne : vals l x ≠ [] := fun e => by have := (HW.out.2.1 x).2 e; rw [hvs] at this; cases this
            obtain ⟨g, cp, hvg, hg1, hg2, hgc⟩ := HW.out.row hne
            rw [hvs] at hvg
            cases hvg
            have hBn : RowKit.Below w3.heap.size w3 wn := HBq.out.grown hgn HBq.out.size (fun k e => by cases e; exact Nat.le_refl _)
            have hTn := HT3.out.but (.of_below (M := fun _ => False) hBn (Nat.le_refl _)) (fun h => h) (fun h => h)
            have hof := of_any (w1.heap.size + 1) w1.heap.size l.length (rOf l) x wn hxl hTn.cell (World.block_lt_of_cell? wn _ hTn.cell) hTn.map
            have hF : rOf l x = some (specF (vals l x)) := by simp [rOf, hne]
            rw [hF, Option.getD_some] at hof
            have hx100 : (vals l x).length ≤ 100 := Nat.le_trans (vals_le l x) hl2
            have hx0 : 0 < (vals l x).length := List.length_pos_iff.2 hne
            have hAt := fun W => at_row (vals l x) s f W hx100 hx0 hs hf
            have hRat := fun W (h : RowKit.Below w3.heap.size w3 W) => rat_row g cp (vals l x) s f W hx100 hx0 (fun y hy => by obtain ⟨p, hp, rfl⟩ := List.mem_map.1 hy; exact HN.out p (List.mem_filter.1 hp).1) hs hf
              (fun m hm => (World.cell?_of_block (h.block g hg2)).trans (hgc m hm))
            generalize vals l x = xs at hof hAt hRat hx100 hx0 hen ⊢
            generalize shareN xs s f = sn at hAt hRat
            have Hof := Lib.hid hof
            have HAt := Lib.hid hAt
            have HRat := Lib.hid hRat
            have HBn := Lib.hid hBn
            have Hrgn := Lib.hid hrgn
            have Hat := Lib.hid hat
            clear hof hAt hRat hBn hTn hF hgc hne hrgn hat hlk hkey e1
            go_wp2_with (first
              | (go_at_call 10; refine Hof.out.mono ?_; rintro e w5 ⟨rfl, hb5⟩)
              | (go_at_call 11; refine (HAt.out _).mono ?_; rintro e w6 ⟨rfl, hb6⟩)
              | (go_at_call 12; refine (HRat.out _ (HBn.out.trans ((hb5.mono HBn.out.size).trans (hb6.mono (Nat.le_trans HBn.out.size hb5.size))))).mono ?_; rintro e w7 ⟨rfl, rfl⟩))
            go_roundw
            case rel =>
              have hb56 := hb5.trans (hb6.mono hb5.size)
              exact ⟨_, cntn, Hrgn.out.kept (grown_of_below hb56 (Nat.le_refl _)) (by simp) (by simp), HBn.out.trans (hb56.mono HBn.out.size)⟩
            case measure =>
              have hb56 := hb5.trans (hb6.mono hb5.size)
              have h2 := Hrgn.out.kept (grown_of_below hb56 (Nat.le_refl _)) (by simp) (by simp)
              rw [h2.left_eq, Hrq.out.left_eq]; exact hltn
end Go.Proofs.Tryz
