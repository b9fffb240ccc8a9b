/-
  Seat a: is.
  No condition.
-/
import Derived.Test.YtioclaoooghllaaGreatDoorTw
import Derived.Test.YtioclaoooghllaaGreatDoorTx
import Derived.Maps.OwnIn
namespace Go.Sm
open Go Go.RowKit Go.Maps
section
variable {P : Program} {Q : Exit → Act → World → Prop} {l : Nat} {K : Act → World → Prop} {o : Oper} {a : Act} {w : World} {ops : Array Oper} {rest : List Oper} {k0 t e : TypeId} {b n : Nat} {f : List UInt8 → Option Value}
theorem listR (hg : o.guard = none) (hd : ∀ c, o.op ≠ .defer c) (h : ∀ K, (∀ a w, wpListIn (Fence.wide.inRound l) 0 P ops Q rest a w → K a w) → o.wp P a w K Q) : wpListIn (Fence.wide.inRound l) 0 P ops Q (o :: rest) a w :=
  wpListIn_plain hg fun K hK => oper_round hd (h K hK)
theorem wp_look_ok_T (m x : Operand) (hop : o.op = Op.lookup t m x true) (h : TMap P k0 w b n f) (hk : P.underlying k0 = some .string) (ht : P.underlying t = some (.map k0 e)) {z : Value} (hz : (zeroValue e).run P w = .ok z w)
    (k : List UInt8) (hl : k.length ≤ maxLen) (v : Value) (hv : f k = some v) (hm : a.eval m = .map (some b)) (hx : a.eval x = .string ⟨k.toArray⟩) (hK : K (a.put o.dst (.tuple #[v, .bool true])) w) : o.wp P a w K Q := by
  unfold Oper.wp
  simp [execOp, hop, hm, hx, h.look_ok hk ht hz hl, Result.andThen, hv]
  exact hK
theorem boxed_but {Ms : Nat → Prop} {A B : World} {g : Nat} {t : TypeId} {v : Value} (h : Boxed A g t v) (hb : But Ms A B) (hm : ¬ Ms g) : Boxed B g t v := hb.heap h hm
end
end Go.Sm
namespace Go.Proofs.Tryz
open Go Go.Sx Go.Sm Go.RowKit Go.Maps Go.Sort Go.Shelf
attribute [local go_sem] Oper.semAt_some wide_depth wide_fn
def rOf (l : List (List UInt8 × Nat)) (k : List UInt8) : Option (Nat → Nat) := if vals l k = [] then none else some (specF (vals l k))
/-- a key's numbers, in memory -/
theorem WInv.row {w : World} {G base : Nat} {l : List (List UInt8 × Nat)} {vs : List UInt8 → Option Value} (h : WInv w G base l vs) {k : List UInt8} (hk : vals l k ≠ []) :
    ∃ g cap, vs k = some (.slice (some ⟨g, 0, none⟩) (vals l k).length cap) ∧ base ≤ g ∧ g < w.heap.size ∧ ∀ m (hm : m < (vals l k).length), w.cell? ⟨g, m, none⟩ = some (.int .u64 ((vals l k)[m] : Nat)) := by
  cases hv : vs k with
  | none => exact absurd ((h.2.1 k).1 hv) hk
  | some v =>
    obtain ⟨⟨h1, h2⟩, h3⟩ := h.2.2.1 k v hv
    have hlen : (ints (vals l k)).length = (vals l k).length := by simp [ints]
    rcases h2 with ⟨rfl, h0⟩ | ⟨g, cap, cur, rfl, hb, hg, r1, r2, r3, r4⟩
    · exfalso
      rw [hlen] at h0
      exact hk (List.eq_nil_of_length_eq_zero h0)
    · rw [hlen] at *
      refine ⟨g, cap, rfl, hb, (Array.getElem?_eq_some_iff.1 hg).1, fun m hm => ?_⟩
      have e1 := congrArg (fun l => l[m]?) r4
      simp [hm, ints] at e1
      simp [World.cell?, hg, e1]
theorem is_fin {n : Nat} {W0 W2 w3 : World} {pre : List (List UInt8)} (x : List UInt8) {u v v' : Value} {a : Act} (d5 : Boxed w3 (n + 1 + 1) 3 u) (d6 : Boxed w3 (n + 1 + 1 + 1) 9 v) (h0 : But (fun k => k = n + 2 ∨ k = n + 3) W0 w3) (h2 : But (fun k => k = n + 2 ∨ k = n + 3) W2 w3)
    (hs : v' = .int .i64 ((pre ++ [x]).length : Nat)) :
    goesOn (fun k => k = n + 2 ∨ k = n + 3) (fun pre W => (Boxed W (n + 1 + 1) 3 (.int .i64 (pre.length : Nat)) ∧ Boxed W (n + 1 + 1 + 1) 9 (.string ⟨(pre.getLast?.getD []).toArray⟩)) ∧ But (fun k => k = n + 2 ∨ k = n + 3) W0 W) (pre ++ [x]) W2 .normal a
      ((w3.setCell ⟨n + 1 + 1, 0, none⟩ v').setCell ⟨n + 1 + 1 + 1, 0, none⟩ (.string ⟨x.toArray⟩)) := by
  have hb : But (fun k => k = n + 2 ∨ k = n + 3) w3 ((w3.setCell ⟨n + 1 + 1, 0, none⟩ v').setCell ⟨n + 1 + 1 + 1, 0, none⟩ (.string ⟨x.toArray⟩)) :=
    (But.setCell (fun k => k = n + 2 ∨ k = n + 3) w3 ⟨n + 1 + 1, 0, none⟩ v' (.inl rfl)).trans (But.setCell (fun k => k = n + 2 ∨ k = n + 3) _ ⟨n + 1 + 1 + 1, 0, none⟩ _ (.inr rfl))
  subst hs
  refine ⟨h2.trans hb, ⟨(d5.set _).other (by omega) _, ?_⟩, h0.trans hb⟩
  have := (d6.other (B' := n + 1 + 1) (by omega) (.int .i64 ((pre ++ [x]).length : Nat))).set (.string ⟨x.toArray⟩)
  simpa using this
theorem res17 (tmps : Array Value) (B : Nat) (W : World) (h : tmps.getD 4 undef = .pointer (some ⟨B, 0, none⟩)) (hc : W.cell? ⟨B, 0, none⟩ = some (.bool true)) : (results Tryz.f17 tmps).run Tryz.prog W = .ok (.bool true) W := by
  have h1 : Tryz.f17.results = #[.cell 4 4] := rfl
  have h2 : tmps[4]?.getD undef = .pointer (some ⟨B, 0, none⟩) := by simpa using h
  clear h
  simp only [results, h1]
  go_simp
set_option maxRecDepth 100000 in
set_option maxHeartbeats 4000000 in
theorem is_any (S M G base : Nat) (l : List (List UInt8 × Nat)) (vs : List UInt8 → Option Value) (w : World) (hT : Tally w S M l.length fun k => (rOf l k).map rowV) (hW : WInv w G base l vs) (hl : l.length ≤ 100) (hk : ∀ p ∈ l, p.1.length ≤ maxLen) (hn : ∀ p ∈ l, p.2 < 18446744073709551616) :
    Calls Tryz.prog 17 #[.pointer (some ⟨S, 0, none⟩), .map (some G)] w fun e w' => e = .returned (.bool true) ∧ RowKit.Below w.heap.size w w' := by
  have HT := Lib.hid hT
  have HW := Lib.hid hW
  have HK := Lib.hid hk
  have HN := Lib.hid hn
  clear hT hW hk hn
  refine (callsIn_wide (n := 0)).1 ?_
  refine callsIn_of_wp_marks Tryz.func17 rfl trivial ?_ rfl
  simp only [Tryz.ntmps17, List.size_toArray, List.length_cons, List.length_nil, Nat.reduceAdd, Nat.reduceSub, Array.replicate_succ, Array.replicate_zero, List.push_toArray, List.append_toArray, List.nil_append, List.cons_append]
  gi_wp2_with (gi_at_call 26; refine (all_any _ _).mono ?_; rintro e w' ⟨rfl, rfl⟩)
  obtain ⟨ks, hks, hks1, hks2⟩ := HT.out.map.isKeys Tryz.underlying9
  have b3 := (((Boxed.new w 31 (.map (some G))).alloc (.cells #[.bool false] 4)).alloc (.cells #[.int .i64 0] 3)).alloc (.cells #[.string ⟨#[]⟩] 9) |>.alloc (.cells #[.pointer (some ⟨S, 0, none⟩)] 25)
  have b4 := ((Boxed.new (w.alloc (.cells #[.map (some G)] 31)) 4 (.bool false)).alloc (.cells #[.int .i64 0] 3)).alloc (.cells #[.string ⟨#[]⟩] 9) |>.alloc (.cells #[.pointer (some ⟨S, 0, none⟩)] 25)
  have b5 := (Boxed.new ((w.alloc (.cells #[.map (some G)] 31)).alloc (.cells #[.bool false] 4)) 3 (.int .i64 0)).alloc (.cells #[.string ⟨#[]⟩] 9) |>.alloc (.cells #[.pointer (some ⟨S, 0, none⟩)] 25)
  have b6 := (Boxed.new (((w.alloc (.cells #[.map (some G)] 31)).alloc (.cells #[.bool false] 4)).alloc (.cells #[.int .i64 0] 3)) 9 (.string ⟨#[]⟩)).alloc (.cells #[.pointer (some ⟨S, 0, none⟩)] 25)
  have b7 := Boxed.new ((((w.alloc (.cells #[.map (some G)] 31)).alloc (.cells #[.bool false] 4)).alloc (.cells #[.int .i64 0] 3)).alloc (.cells #[.string ⟨#[]⟩] 9)) 25 (.pointer (some ⟨S, 0, none⟩))
  simp only [World.size_alloc] at b4 b5 b6 b7
  have hB0 : RowKit.Below w.heap.size w (((((w.alloc (.cells #[.map (some G)] 31)).alloc (.cells #[.bool false] 4)).alloc (.cells #[.int .i64 0] 3)).alloc (.cells #[.string ⟨#[]⟩] 9)).alloc (.cells #[.pointer (some ⟨S, 0, none⟩)] 25)) :=
    (((((RowKit.Below.refl _ w).alloc (Nat.le_refl _) _).alloc (by simp) _).alloc (by simp; omega) _).alloc (by simp; omega) _).alloc (by simp; omega) _
  have hs0 : (((((w.alloc (.cells #[.map (some G)] 31)).alloc (.cells #[.bool false] 4)).alloc (.cells #[.int .i64 0] 3)).alloc (.cells #[.string ⟨#[]⟩] 9)).alloc (.cells #[.pointer (some ⟨S, 0, none⟩)] 25)).heap.size = w.heap.size + 5 := by simp
  obtain ⟨W0, hW0⟩ : ∃ W0, (((((w.alloc (.cells #[.map (some G)] 31)).alloc (.cells #[.bool false] 4)).alloc (.cells #[.int .i64 0] 3)).alloc (.cells #[.string ⟨#[]⟩] 9)).alloc (.cells #[.pointer (some ⟨S, 0, none⟩)] 25)) = W0 := ⟨_, rfl⟩
  rw [hW0] at b3 b4 b5 b6 b7 hB0 hs0 ⊢
  clear hW0
  have hSl : S < w.heap.size := World.block_lt_of_cell? w _ HT.out.cell
  have hMl := HT.out.map.lt
  have hGl := HW.out.1.lt
  have hT0 := HT.out.but (Ms := fun _ => False) (.of_below hB0 (Nat.le_refl _)) (fun h => h) (fun h => h)
  have HT0 := Lib.hid hT0
  have HKS := Lib.hid hks
  have HKS2 := Lib.hid hks2
  have HS0 := Lib.hid hs0
  clear hT0 hks hks2 hs0
  refine wpIn_rangeFunc_all (α := List UInt8) (gf := 35) (lb := #[.pointer (some ⟨w.heap.size + 1 + 1 + 1 + 1, 0, none⟩)]) rfl (enters_of Tryz.func35 (by kernel_rfl) rfl)
    (all1_runs (w.heap.size + 1 + 1 + 1 + 1) S M l.length (rOf l) ks HKS.out HKS2.out (by omega)) (fun _ => rfl) (fun k => k = w.heap.size + 2 ∨ k = w.heap.size + 3) (fun k hk => by have := HS0.out; omega)
    (fun w' hw' => ⟨⟨(hw'.cell (p := ⟨w.heap.size + 1 + 1 + 1 + 1, 0, none⟩) (by have := HS0.out; simp; omega)).trans b7.cell, HT0.out.but (Ms := fun _ => False) (.of_below hw' (Nat.le_refl _)) (fun h => h) (fun h => h)⟩,
      (fun h => by have := HS0.out; rcases h with (h | h) | h <;> omega), (fun h => by have := HS0.out; rcases h with (h | h) | h <;> omega), (fun h => by have := HS0.out; rcases h with (h | h) | h <;> omega)⟩)
    (fun pre W => (Boxed W (w.heap.size + 1 + 1) 3 (.int .i64 (pre.length : Nat)) ∧ Boxed W (w.heap.size + 1 + 1 + 1) 9 (.string ⟨(pre.getLast?.getD []).toArray⟩)) ∧ But (fun k => k = w.heap.size + 2 ∨ k = w.heap.size + 3) W0 W)
    (fun s A B hs hab => ⟨⟨(hab.block _ (by have := HS0.out; omega)).trans hs.1.1, (hab.block _ (by have := HS0.out; omega)).trans hs.1.2⟩, hs.2.later hab (Nat.le_refl _)⟩)
    ⟨⟨b5, b6⟩, .refl _ _⟩ ?round ?done
  case round =>
    rintro l2 pre x post W1 hl2 hx ⟨⟨c5, c6⟩, hb01⟩ _ hlt
    gi_wp2_with (refine listR rfl (by intro c h; cases h) fun K hK => wp_store_row 36 _ _ rfl W1.heap.size (rowA ((rOf l x).getD fun _ => 0)) rfl rfl 36 (rowA fun _ => 0) (heap_new0 _ _) (by rw [rowA_size]; exact size36) (by rw [rowA_size, rowA_size]) (rowA_one _) (hK _ _ ?_); rw [World.setRow_alloc_new])
    refine ⟨.alloc _ _ _, fun W2 hb2 => ?_⟩
    have hsz1 := hb01.size
    have hs0' := HS0.out
    have hGe := HW.out.2.2.2.2
    have hsz2 : W1.heap.size + 1 ≤ W2.heap.size := by have := hb2.size; simpa using this
    have h8 : W2.heap[W1.heap.size]? = some (.cells (rowA ((rOf l x).getD fun _ => 0)) 36 (0, 0)) := hb2.heap (heap_new0 _ _) (by omega)
    have d5 : Boxed W2 (w.heap.size + 1 + 1) 3 (.int .i64 (pre.length : Nat)) := boxed_but (c5.alloc _) hb2 (by omega)
    have d6 : Boxed W2 (w.heap.size + 1 + 1 + 1) 9 (.string ⟨(pre.getLast?.getD []).toArray⟩) := boxed_but (c6.alloc _) hb2 (by omega)
    have d3 : Boxed W2 w.heap.size 31 (.map (some G)) := boxed_but ((boxed_but b3 hb01 (by omega)).alloc _) hb2 (by omega)
    have hkeep : ∀ k, k < w.heap.size → W2.heap[k]? = w.heap[k]? := fun k hk =>
      (hb2.block k (by simp; omega) (by omega)).trans ((Below.heap_alloc W1 _ k (by omega)).trans ((hb01.block k (by omega) (by omega)).trans (hB0.block k hk)))
    have hxm : (((rOf l x).map rowV).isSome) = true := (HKS.out.mem x).1 (by rw [hx]; simp)
    have hne : vals l x ≠ [] := fun e => by simp [rOf, e] at hxm
    have hF : (rOf l x).getD (fun _ => 0) = specF (vals l x) := by simp [rOf, hne]
    obtain ⟨g, cap, hv, hg1, hg2, hgc⟩ := HW.out.row hne
    have HTG : TMap Tryz.prog 9 W2 G l.length vs := HW.out.1.block (hkeep G hGl)
    have hR := Lib.hid (rof g cap (vals l x) W2.drew (show g < W2.heap.size by omega) (Nat.le_trans (vals_le l x) hl) (fun y hy => by
      obtain ⟨p, hp, rfl⟩ := List.mem_map.1 hy; exact HN.out p (List.mem_filter.1 hp).1) (fun m hm => (World.cell?_of_block (show W2.heap[g]? = _ from hkeep g hg2)).trans (hgc m hm)))
    have hxl : x.length ≤ maxLen := HKS2.out x (by rw [hx]; simp)
    have hpl : pre.length ≤ 100 := by have := congrArg List.length hx; simp at this; omega
    have hb02 : But (fun k => k = w.heap.size + 2 ∨ k = w.heap.size + 3) W0 W2 :=
      ⟨hb2.os.trans hb01.os, hb2.tape.trans hb01.tape, hb2.output.trans hb01.output, by omega, fun k hk hm => (hb2.block k (by simp; omega) (by omega)).trans ((Below.heap_alloc W1 _ k (by omega)).trans (hb01.block k hk hm))⟩
    have hle : pre ≠ [] → pre.getLast?.getD [] < x := fun hp => by
      have hs := HKS.out.sorted
      rw [hx, List.pairwise_append] at hs
      refine hs.2.2 _ ?_ x (by simp)
      rw [List.getLast?_eq_some_getLast hp]
      exact List.getLast_mem hp
    have HV := Lib.hid hv
    have HXL := Lib.hid hxl
    have HLA := Lib.hid hle
    have HB02 := Lib.hid hb02
    have HG := Lib.hid HTG
    have h8l : W1.heap.size < W2.heap.size := by omega
    obtain ⟨xs, hxs⟩ : ∃ xs, vals l x = xs := ⟨_, rfl⟩
    obtain ⟨la, hla⟩ : ∃ la, pre.getLast?.getD [] = la := ⟨_, rfl⟩
    obtain ⟨F, hFF⟩ : ∃ F, specF xs = F := ⟨_, rfl⟩
    rw [hF] at h8
    rw [hxs] at h8 hR HV
    rw [hFF] at h8 hR
    rw [hla] at d6 HLA
    have HFF := Lib.hid hFF
    have c3 := d3.cell
    have hbf : ∀ {B : World}, RowKit.Below W2.drew.heap.size W2.drew B → But (fun k => k = w.heap.size + 2 ∨ k = w.heap.size + 3) W2 B := fun h => .of_below ((RowKit.Below.refl _ W2).drew.trans h) (Nat.le_refl _)
    clear hv hxl hle hb02 HTG hF hxs hla hFF hgc hne hxm hkeep hGe hs0' hsz1 hb2 hb01 c5 c6 b3 b4 b5 b6 b7 hx
    gi_wp2_with (gi_at_lookup; refine listR rfl (by intro c h; cases h) fun K hK => wp_look_ok_T _ _ rfl HG.out Tryz.underlying9 Tryz.underlying31 (zero33 _) x HXL.out _ HV.out rfl rfl (hK _ _ ?_))
    by_cases hp : pre = []
    · have HP := Lib.hid hp
      have hlen0 : pre.length = 0 := by rw [hp]; rfl
      clear hp
      refine region_start_in (S := fun w' : World => w'.heap[W1.heap.size]? = some (.cells (rowA F) 36 (0, 0)) ∧ Boxed w' (w.heap.size + 1 + 1) 3 (.int .i64 (pre.length : Nat)) ∧ Boxed w' (w.heap.size + 1 + 1 + 1) 9 (.string ⟨la.toArray⟩)) 17 #[false, false, false, false, false, false, false, false, false, false, false, false, false, false, false, false, false] mixed rfl rfl (fun ⟨_, _, h⟩ => h) (by kernel_rfl) ?_
      refine takeQ 0 #[true, false, false, false, false, false, false, false, false, false, false, false, false, false, false, false, false] (some 22) (v := .bool true) rfl (by kernel_rfl) (fun _ _ _ h => h) rfl (fun w' hw' => rfl) ⟨h8, d5, d6⟩ rfl rfl ?_
      simp only [Act.put, List.setIfInBounds_toArray, List.set_cons_zero, List.set_cons_succ]
      refine takeQ 1 #[true, true, false, false, false, false, false, false, false, false, false, false, false, false, false, false, false] (some 23) (v := .bool false) rfl (by kernel_rfl) (fun _ _ _ h => h) rfl (fun w' hw' => by go_simp) ⟨h8, d5, d6⟩ rfl rfl ?_
      simp only [Act.put, List.setIfInBounds_toArray, List.set_cons_zero, List.set_cons_succ]
      refine takeQ 2 #[true, true, true, false, false, false, false, false, false, false, false, false, false, false, false, false, false] (some 24) (v := .bool false) rfl (by kernel_rfl) (fun _ _ _ h => h) rfl (fun w' hw' => rfl) ⟨h8, d5, d6⟩ rfl rfl ?_
      simp only [Act.put, List.setIfInBounds_toArray, List.set_cons_zero, List.set_cons_succ]
      refine takeQ 3 #[true, true, true, true, false, false, false, false, false, false, false, false, false, false, false, false, false] (some 25) (v := .agg (rowA F)) rfl (by kernel_rfl) (fun _ _ _ h => h) rfl (fun w' hw' => exec_load_row 36 _ rfl W1.heap.size rfl 36 _ (0, 0) _ hw'.1 Tryz.underlying36 rfl (by rw [rowA_size]; exact size36)) ⟨h8, d5, d6⟩ rfl rfl ?_
      simp only [Act.put, List.setIfInBounds_toArray, List.set_cons_zero, List.set_cons_succ]
      refine takeQ 4 #[true, true, true, true, true, false, false, false, false, false, false, false, false, false, false, false, false] (some 26) (v := .slice (some ⟨g, 0, none⟩) xs.length cap) rfl (by kernel_rfl) (fun _ _ _ h => h) rfl (fun w' hw' => rfl) ⟨h8, d5, d6⟩ rfl rfl ?_
      simp only [Act.put, List.setIfInBounds_toArray, List.set_cons_zero, List.set_cons_succ]
      refine takeE 5 #[true, true, true, true, true, true, false, false, false, false, false, false, false, false, false, false, false] (some 27) (by kernel_rfl) rfl rfl rfl rfl fun K hK => ?_
      go_simp
      go_wp2_with (go_at_call 27; refine hR.out.mono ?_; rintro e w3 ⟨rfl, hb3⟩)
      have h8' : w3.heap[W1.heap.size]? = some (.cells (rowA F) 36 (0, 0)) := (hb3.block _ h8l).trans h8
      have d5' : Boxed w3 (w.heap.size + 1 + 1) 3 (.int .i64 (pre.length : Nat)) := (hb3.block _ d5.lt).trans d5
      have d6' : Boxed w3 (w.heap.size + 1 + 1 + 1) 9 (.string ⟨la.toArray⟩) := (hb3.block _ d6.lt).trans d6
      refine hK _ _ ⟨h8', d5', d6'⟩ ?_
      clear hK K
      simp only [Act.put, List.setIfInBounds_toArray, List.set_cons_zero, List.set_cons_succ]
      refine takeQ 6 #[true, true, true, true, true, true, true, false, false, false, false, false, false, false, false, false, false] (some 28) (v := .bool false) rfl (by kernel_rfl) (fun _ _ _ h => h) rfl (fun w' hw' => neq_op _ _ _ rfl rfl rfl) ⟨h8', d5', d6'⟩ rfl rfl ?_
      simp only [Act.put, List.setIfInBounds_toArray, List.set_cons_zero, List.set_cons_succ]
      refine takeQ 7 #[true, true, true, true, true, true, true, true, false, false, false, false, false, false, false, false, false] (some 29) (v := .bool false) rfl (by kernel_rfl) (fun _ _ _ h => h) rfl (fun w' hw' => by go_simp) ⟨h8', d5', d6'⟩ rfl rfl ?_
      simp only [Act.put, List.setIfInBounds_toArray, List.set_cons_zero, List.set_cons_succ]
      refine takeQ 8 #[true, true, true, true, true, true, true, true, true, false, false, false, false, false, false, false, false] (some 30) (v := .bool false) rfl (by kernel_rfl) (fun _ _ _ h => h) rfl (fun w' hw' => rfl) ⟨h8', d5', d6'⟩ rfl rfl ?_
      simp only [Act.put, List.setIfInBounds_toArray, List.set_cons_zero, List.set_cons_succ]
      refine takeQ 9 #[true, true, true, true, true, true, true, true, true, true, false, false, false, false, false, false, false] (some 31) (v := .int .i64 (pre.length : Nat)) rfl (by kernel_rfl) (fun _ _ _ h => h) rfl (fun w' hw' => by have h := hw'.2.1.cell; go_simp) ⟨h8', d5', d6'⟩ rfl rfl ?_
      simp only [Act.put, List.setIfInBounds_toArray, List.set_cons_zero, List.set_cons_succ]
      refine takeQ 10 #[true, true, true, true, true, true, true, true, true, true, true, false, false, false, false, false, false] (some 32) (v := .bool false) rfl (by kernel_rfl) (fun _ _ _ h => h) rfl (fun w' hw' => by have h := HP.out; go_simp) ⟨h8', d5', d6'⟩ rfl rfl ?_
      simp only [Act.put, List.setIfInBounds_toArray, List.set_cons_zero, List.set_cons_succ]
      refine takeQ 11 #[true, true, true, true, true, true, true, true, true, true, true, true, false, false, false, false, false] (some 33) (v := .bool false) rfl (by kernel_rfl) (fun _ _ _ h => h) rfl (fun w' hw' => rfl) ⟨h8', d5', d6'⟩ rfl rfl ?_
      simp only [Act.put, List.setIfInBounds_toArray, List.set_cons_zero, List.set_cons_succ]
      refine takeN 12 #[true, true, true, true, true, true, true, true, true, true, true, true, true, false, false, false, false] (some 34) rfl (by kernel_rfl) (fun _ _ _ h => h) rfl ⟨h8', d5', d6'⟩ rfl rfl ?_
      simp only [Act.put, List.setIfInBounds_toArray, List.set_cons_zero, List.set_cons_succ]
      refine takeN 13 #[true, true, true, true, true, true, true, true, true, true, true, true, true, true, false, false, false] (some 35) rfl (by kernel_rfl) (fun _ _ _ h => h) rfl ⟨h8', d5', d6'⟩ rfl rfl ?_
      simp only [Act.put, List.setIfInBounds_toArray, List.set_cons_zero, List.set_cons_succ]
      refine takeN 14 #[true, true, true, true, true, true, true, true, true, true, true, true, true, true, true, false, false] (some 36) rfl (by kernel_rfl) (fun _ _ _ h => h) rfl ⟨h8', d5', d6'⟩ rfl rfl ?_
      simp only [Act.put, List.setIfInBounds_toArray, List.set_cons_zero, List.set_cons_succ]
      refine takeQ 15 #[true, true, true, true, true, true, true, true, true, true, true, true, true, true, true, true, false] (some 37) (v := .bool false) rfl (by kernel_rfl) (fun _ _ _ h => h) rfl (fun w' hw' => by go_simp) ⟨h8', d5', d6'⟩ rfl rfl ?_
      simp only [Act.put, List.setIfInBounds_toArray, List.set_cons_zero, List.set_cons_succ]
      refine takeQ 16 #[true, true, true, true, true, true, true, true, true, true, true, true, true, true, true, true, true] (some 38) (v := .bool false) rfl (by kernel_rfl) (fun _ _ _ h => h) rfl (fun w' hw' => by go_simp) ⟨h8', d5', d6'⟩ rfl rfl ?_
      simp only [Act.put, List.setIfInBounds_toArray, List.set_cons_zero, List.set_cons_succ]
      refine wpAnyH_done (by kernel_rfl) ?_ _
      have e5 := d5'.cell
      have e6 := d6'.cell
      have f5 := d5'.frozen
      have f6 := d6'.frozen
      gi_wp2
      exact is_fin x d5' d6' (HB02.out.trans (hbf hb3)) (hbf hb3) (by simp [hlen0])
    · have HP := Lib.hid (List.length_pos_iff.2 hp)
      have HLE := Lib.hid (HLA.out hp)
      clear hp
      refine region_start_in (S := fun w' : World => w'.heap[W1.heap.size]? = some (.cells (rowA F) 36 (0, 0)) ∧ Boxed w' (w.heap.size + 1 + 1) 3 (.int .i64 (pre.length : Nat)) ∧ Boxed w' (w.heap.size + 1 + 1 + 1) 9 (.string ⟨la.toArray⟩)) 17 #[false, false, false, false, false, false, false, false, false, false, false, false, false, false, false, false, false] mixed rfl rfl (fun ⟨_, _, h⟩ => h) (by kernel_rfl) ?_
      refine takeQ 0 #[true, false, false, false, false, false, false, false, false, false, false, false, false, false, false, false, false] (some 22) (v := .bool true) rfl (by kernel_rfl) (fun _ _ _ h => h) rfl (fun w' hw' => rfl) ⟨h8, d5, d6⟩ rfl rfl ?_
      simp only [Act.put, List.setIfInBounds_toArray, List.set_cons_zero, List.set_cons_succ]
      refine takeQ 1 #[true, true, false, false, false, false, false, false, false, false, false, false, false, false, false, false, false] (some 23) (v := .bool false) rfl (by kernel_rfl) (fun _ _ _ h => h) rfl (fun w' hw' => by go_simp) ⟨h8, d5, d6⟩ rfl rfl ?_
      simp only [Act.put, List.setIfInBounds_toArray, List.set_cons_zero, List.set_cons_succ]
      refine takeQ 2 #[true, true, true, false, false, false, false, false, false, false, false, false, false, false, false, false, false] (some 24) (v := .bool false) rfl (by kernel_rfl) (fun _ _ _ h => h) rfl (fun w' hw' => rfl) ⟨h8, d5, d6⟩ rfl rfl ?_
      simp only [Act.put, List.setIfInBounds_toArray, List.set_cons_zero, List.set_cons_succ]
      refine takeQ 3 #[true, true, true, true, false, false, false, false, false, false, false, false, false, false, false, false, false] (some 25) (v := .agg (rowA F)) rfl (by kernel_rfl) (fun _ _ _ h => h) rfl (fun w' hw' => exec_load_row 36 _ rfl W1.heap.size rfl 36 _ (0, 0) _ hw'.1 Tryz.underlying36 rfl (by rw [rowA_size]; exact size36)) ⟨h8, d5, d6⟩ rfl rfl ?_
      simp only [Act.put, List.setIfInBounds_toArray, List.set_cons_zero, List.set_cons_succ]
      refine takeQ 4 #[true, true, true, true, true, false, false, false, false, false, false, false, false, false, false, false, false] (some 26) (v := .slice (some ⟨g, 0, none⟩) xs.length cap) rfl (by kernel_rfl) (fun _ _ _ h => h) rfl (fun w' hw' => rfl) ⟨h8, d5, d6⟩ rfl rfl ?_
      simp only [Act.put, List.setIfInBounds_toArray, List.set_cons_zero, List.set_cons_succ]
      refine takeE 5 #[true, true, true, true, true, true, false, false, false, false, false, false, false, false, false, false, false] (some 27) (by kernel_rfl) rfl rfl rfl rfl fun K hK => ?_
      go_simp
      go_wp2_with (go_at_call 27; refine hR.out.mono ?_; rintro e w3 ⟨rfl, hb3⟩)
      have h8' : w3.heap[W1.heap.size]? = some (.cells (rowA F) 36 (0, 0)) := (hb3.block _ h8l).trans h8
      have d5' : Boxed w3 (w.heap.size + 1 + 1) 3 (.int .i64 (pre.length : Nat)) := (hb3.block _ d5.lt).trans d5
      have d6' : Boxed w3 (w.heap.size + 1 + 1 + 1) 9 (.string ⟨la.toArray⟩) := (hb3.block _ d6.lt).trans d6
      refine hK _ _ ⟨h8', d5', d6'⟩ ?_
      clear hK K
      simp only [Act.put, List.setIfInBounds_toArray, List.set_cons_zero, List.set_cons_succ]
      refine takeQ 6 #[true, true, true, true, true, true, true, false, false, false, false, false, false, false, false, false, false] (some 28) (v := .bool false) rfl (by kernel_rfl) (fun _ _ _ h => h) rfl (fun w' hw' => neq_op _ _ _ rfl rfl rfl) ⟨h8', d5', d6'⟩ rfl rfl ?_
      simp only [Act.put, List.setIfInBounds_toArray, List.set_cons_zero, List.set_cons_succ]
      refine takeQ 7 #[true, true, true, true, true, true, true, true, false, false, false, false, false, false, false, false, false] (some 29) (v := .bool false) rfl (by kernel_rfl) (fun _ _ _ h => h) rfl (fun w' hw' => by go_simp) ⟨h8', d5', d6'⟩ rfl rfl ?_
      simp only [Act.put, List.setIfInBounds_toArray, List.set_cons_zero, List.set_cons_succ]
      refine takeQ 8 #[true, true, true, true, true, true, true, true, true, false, false, false, false, false, false, false, false] (some 30) (v := .bool false) rfl (by kernel_rfl) (fun _ _ _ h => h) rfl (fun w' hw' => rfl) ⟨h8', d5', d6'⟩ rfl rfl ?_
      simp only [Act.put, List.setIfInBounds_toArray, List.set_cons_zero, List.set_cons_succ]
      refine takeQ 9 #[true, true, true, true, true, true, true, true, true, true, false, false, false, false, false, false, false] (some 31) (v := .int .i64 (pre.length : Nat)) rfl (by kernel_rfl) (fun _ _ _ h => h) rfl (fun w' hw' => by have h := hw'.2.1.cell; go_simp) ⟨h8', d5', d6'⟩ rfl rfl ?_
      simp only [Act.put, List.setIfInBounds_toArray, List.set_cons_zero, List.set_cons_succ]
      refine takeQ 10 #[true, true, true, true, true, true, true, true, true, true, true, false, false, false, false, false, false] (some 32) (v := .bool true) rfl (by kernel_rfl) (fun _ _ _ h => h) rfl (fun w' hw' => by have h := HP.out; go_simp; try omega) ⟨h8', d5', d6'⟩ rfl rfl ?_
      simp only [Act.put, List.setIfInBounds_toArray, List.set_cons_zero, List.set_cons_succ]
      refine takeQ 11 #[true, true, true, true, true, true, true, true, true, true, true, true, false, false, false, false, false] (some 33) (v := .bool true) rfl (by kernel_rfl) (fun _ _ _ h => h) rfl (fun w' hw' => rfl) ⟨h8', d5', d6'⟩ rfl rfl ?_
      simp only [Act.put, List.setIfInBounds_toArray, List.set_cons_zero, List.set_cons_succ]
      refine takeQ 12 #[true, true, true, true, true, true, true, true, true, true, true, true, true, false, false, false, false] (some 34) (v := .string ⟨x.toArray⟩) rfl (by kernel_rfl) (fun _ _ _ h => h) rfl (fun w' hw' => rfl) ⟨h8', d5', d6'⟩ rfl rfl ?_
      simp only [Act.put, List.setIfInBounds_toArray, List.set_cons_zero, List.set_cons_succ]
      refine takeQ 13 #[true, true, true, true, true, true, true, true, true, true, true, true, true, true, false, false, false] (some 35) (v := .string ⟨la.toArray⟩) rfl (by kernel_rfl) (fun _ _ _ h => h) rfl (fun w' hw' => by have h := hw'.2.2.cell; go_simp) ⟨h8', d5', d6'⟩ rfl rfl ?_
      simp only [Act.put, List.setIfInBounds_toArray, List.set_cons_zero, List.set_cons_succ]
      refine takeQ 14 #[true, true, true, true, true, true, true, true, true, true, true, true, true, true, true, false, false] (some 36) (v := .bool false) rfl (by kernel_rfl) (fun _ _ _ h => h) rfl (fun w' hw' => leq_op _ _ _ rfl rfl rfl HLE.out) ⟨h8', d5', d6'⟩ rfl rfl ?_
      simp only [Act.put, List.setIfInBounds_toArray, List.set_cons_zero, List.set_cons_succ]
      refine takeQ 15 #[true, true, true, true, true, true, true, true, true, true, true, true, true, true, true, true, false] (some 37) (v := .bool false) rfl (by kernel_rfl) (fun _ _ _ h => h) rfl (fun w' hw' => by go_simp) ⟨h8', d5', d6'⟩ rfl rfl ?_
      simp only [Act.put, List.setIfInBounds_toArray, List.set_cons_zero, List.set_cons_succ]
      refine takeQ 16 #[true, true, true, true, true, true, true, true, true, true, true, true, true, true, true, true, true] (some 38) (v := .bool false) rfl (by kernel_rfl) (fun _ _ _ h => h) rfl (fun w' hw' => by go_simp) ⟨h8', d5', d6'⟩ rfl rfl ?_
      simp only [Act.put, List.setIfInBounds_toArray, List.set_cons_zero, List.set_cons_succ]
      refine wpAnyH_done (by kernel_rfl) ?_ _
      have e5 := d5'.cell
      have e6 := d6'.cell
      have f5 := d5'.frozen
      have f6 := d6'.frozen
      gi_wp2
      exact is_fin x d5' d6' (HB02.out.trans (hbf hb3)) (hbf hb3) (by simp)
  case done =>
    rintro W1 ⟨⟨c5, c6⟩, hb01⟩ _ hK
    rw [HS0.out] at hK
    rw [HS0.out]
    have hs0' := HS0.out
    have hsz1 := hb01.size
    have k4 := boxed_but b4 hb01 (by omega)
    clear hs0'
    gi_wp2_with (gi_at_call 28; refine (keys_any _ _).mono ?_; rintro e w' ⟨rfl, rfl⟩)
    have hlt5 := c5.lt
    have e11 := (Boxed.new W1 3 (.int .i64 0)).alloc (.cells #[.pointer (some ⟨S, 0, none⟩)] 25)
    have e12 := Boxed.new (W1.alloc (.cells #[.int .i64 0] 3)) 25 (.pointer (some ⟨S, 0, none⟩))
    rw [World.size_alloc] at e12
    have hB2 : RowKit.Below W1.heap.size W1 ((W1.alloc (.cells #[.int .i64 0] 3)).alloc (.cells #[.pointer (some ⟨S, 0, none⟩)] 25)) := ((RowKit.Below.refl _ W1).alloc (Nat.le_refl _) _).alloc (by simp) _
    have hs2 : ((W1.alloc (.cells #[.int .i64 0] 3)).alloc (.cells #[.pointer (some ⟨S, 0, none⟩)] 25)).heap.size = W1.heap.size + 2 := by simp
    obtain ⟨W2, hW2⟩ : ∃ W2, (W1.alloc (.cells #[.int .i64 0] 3)).alloc (.cells #[.pointer (some ⟨S, 0, none⟩)] 25) = W2 := ⟨_, rfl⟩
    rw [hW2] at e11 e12 hB2 hs2 ⊢
    clear hW2
    have hlk : w.heap.size + 5 ≤ W1.heap.size := by have := HS0.out; omega
    have hb02 : But (fun k => k = w.heap.size + 2 ∨ k = w.heap.size + 3) W0 W2 := hb01.later hB2 (by have := HS0.out; omega)
    have hT2 := HT0.out.but hb02 (fun h => by omega) (fun h => by omega)
    have HT2 := Lib.hid hT2
    have HS2 := Lib.hid hs2
    have HB02 := Lib.hid hb02
    have hBw2 : RowKit.Below w.heap.size w W2 := hB0.trans (hb02.below (fun k h1 h2 => by omega) (by have := HS0.out; omega))
    have HBw2 := Lib.hid hBw2
    have k3' : Boxed W2 w.heap.size 31 (.map (some G)) := boxed_but b3 hb02 (by omega)
    clear hs2 hT2 hb02 hb01 hB0 b3 b4 b5 b6 b7 hBw2
    refine wpIn_rangeFunc_all (α := List UInt8) (gf := 36) (lb := #[.pointer (some ⟨W1.heap.size + 1, 0, none⟩)]) rfl (enters_of Tryz.func36 (by kernel_rfl) rfl)
      (keys1_runs (W1.heap.size + 1) S M l.length _ ks HKS.out (by omega)) (fun _ => rfl) (fun k => k = W1.heap.size) (fun k hk => by have := HS2.out; omega)
      (fun w' hw' => ⟨(hw'.cell (p := ⟨W1.heap.size + 1, 0, none⟩) (by have := HS2.out; simp; omega)).trans e12.cell, HT2.out.but (Ms := fun _ => False) (.of_below hw' (Nat.le_refl _)) (fun h => h) (fun h => h)⟩)
      (fun pre W => Boxed W W1.heap.size 3 (.int .i64 (pre.length : Nat)) ∧ But (fun k => k = W1.heap.size) W2 W)
      (fun s A B hs hab => ⟨(hab.block _ (by have := HS2.out; omega)).trans hs.1, hs.2.later hab (Nat.le_refl _)⟩)
      ⟨e11, .refl _ _⟩ ?round2 ?done2
    case round2 =>
      rintro l2 pre x post W3 hl2 hx ⟨g11, hb23⟩ _ hlt
      have hpl : pre.length ≤ 100 := by have := congrArg List.length hx; simp at this; omega
      clear hx
      gi_wp2
      refine ⟨.refl _ _, fun W4 hb4 => ?_⟩
      have g12 := boxed_but g11 hb4 (by have := HS2.out; omega)
      have f12 := g12.cell
      have z12 := g12.frozen
      have H24 := Lib.hid ((show But (fun k => k = W1.heap.size) W2 W4 from hb23.later (hb4.below (n := W2.heap.size) (fun k h1 h2 => by omega) hb23.size) (Nat.le_refl _)))
      clear hb23 hb4 g11
      gi_wp2
      refine ⟨.setCell _ _ _ _ rfl, ?_, H24.out.trans (.setCell _ _ _ _ rfl)⟩
      have := g12.set (.int .i64 ((pre.length : Nat) + 1 : Int))
      simpa using this
    case done2 =>
      rintro W3 ⟨g11, hb23⟩ _ hK2
      rw [HS2.out] at hK2
      rw [HS2.out]
      have hs2' := HS2.out
      have k5 : Boxed W3 (w.heap.size + 1 + 1) 3 (.int .i64 (ks.length : Nat)) := boxed_but ((hB2.block _ c5.lt).trans c5) hb23 (by omega)
      have k4' : Boxed W3 (w.heap.size + 1) 4 (.bool false) := boxed_but ((hB2.block _ k4.lt).trans k4) hb23 (by omega)
      have k3 := (boxed_but k3' hb23 (by omega)).cell
      have hBw3 : RowKit.Below w.heap.size w W3 := HBw2.out.trans (hb23.below (fun k h1 h2 => by omega) (by omega))
      have hlen := (HW.out.1.below hBw3 hGl).len Tryz.underlying9 Tryz.underlying31 HKS.out.nodup (fun k => by
        rw [HKS.out.mem k]
        have h1 := HW.out.2.1 k
        cases hv : vs k with
        | none => have h2 := h1.1 hv; simp [rOf, h2]
        | some v =>
          have h2 : vals l k ≠ [] := fun e => by have := h1.2 e; rw [hv] at this; cases this
          simp [rOf, h2]) 3
      have hKl := (Array.getElem?_eq_some_iff.1 hK).1
      have hKa : W3.heap[w.heap.size + 5]? = some (.deferred (some [])) := hb23.heap ((hB2.block _ (Array.getElem?_eq_some_iff.1 hK).1).trans hK) (by omega)
      have HBw3 := Lib.hid hBw3
      have i5 := k5.cell
      have i4 := k4'.frozen
      have i4c := k4'.cell
      have i11 := g11.cell
      have hs3 : W1.heap.size + 2 < W3.heap.size := (Array.getElem?_eq_some_iff.1 hK2).1
      have n5 : w.heap.size + 1 ≠ w.heap.size + 5 := by omega
      clear hKl hs2' hBw3 hB2 hb23 k3' c5 c6 hK k4 e11 e12
      gi_wp2
      have q1 : (W3.setCell ⟨w.heap.size + 1, 0, none⟩ (.bool true)).heap[W1.heap.size + 2]? = some (.deferred (some [])) := (Below.heap_setCell _ _ _ _ (by simp; omega)).trans hK2
      have q2 : (W3.setCell ⟨w.heap.size + 1, 0, none⟩ (.bool true)).heap[w.heap.size + 5]? = some (.deferred (some [])) := (Below.heap_setCell _ _ _ _ (by simp)).trans hKa
      have q4 := k4'.set (.bool true)
      have HBw4 := Lib.hid (HBw3.out.setCell (p := ⟨w.heap.size + 1, 0, none⟩) (by simp) (.bool true))
      have hs4 : (W3.setCell ⟨w.heap.size + 1, 0, none⟩ (.bool true)).heap.size = W3.heap.size := by simp [World.setCell]
      generalize W3.setCell ⟨w.heap.size + 1, 0, none⟩ (.bool true) = W4 at q1 q2 q4 HBw4 hs4 ⊢
      refine ⟨by simp, .inl ⟨_, _, rfl, run_takeDeferred q1, by simp, .inl ⟨_, _, rfl, run_takeDeferred ((World.putObj_heap_other (by omega)).trans q2), ?_⟩⟩⟩
      have q5 : Boxed ((W4.putObj (W1.heap.size + 2) (.deferred none)).putObj (w.heap.size + 5) (.deferred none)) (w.heap.size + 1) 4 (.bool true) := (World.putObj_heap_other (by omega)).trans ((World.putObj_heap_other (by omega)).trans q4)
      refine ⟨_, res17 _ (w.heap.size + 1) _ rfl q5.cell, rfl, ?_⟩
      refine HBw4.out.trans (RowKit.Below.trans (b := W4.putObj (W1.heap.size + 2) (.deferred none)) ?_ ?_)
      · exact (But.putObj (fun k => k = W1.heap.size + 2) W4 _ _ rfl).below (fun k h1 h2 => by omega) (by omega)
      · exact (But.putObj (fun k => k = w.heap.size + 5) _ _ _ rfl).below (fun k h1 h2 => by omega) (by simp [World.putObj]; omega)
end Go.Proofs.Tryz
