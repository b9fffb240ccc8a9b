/-
  Seat a: the numbers of each key.
  No condition.
-/
import Derived.Test.YtioclaoooghllaaGreatDoorTk
import Derived.Maps.OwnRows
namespace Go.Proofs.Tryz
open Go Go.Sx Go.Sm Go.RowKit
/-- the numbers at a key -/
def vals (l : List (List UInt8 × Nat)) (k : List UInt8) : List Nat := (l.filter fun p => p.1 == k).map (·.2)
theorem vals_snoc (l : List (List UInt8 × Nat)) (x : List UInt8 × Nat) (k : List UInt8) : vals (l ++ [x]) k = if x.1 = k then vals l k ++ [x.2] else vals l k := by
  unfold vals
  rw [List.filter_append, List.map_append]
  by_cases h : x.1 = k
  · simp [h]
  · have : (x.1 == k) = false := by simpa using h
    simp [this, h]
theorem vals_le (l : List (List UInt8 × Nat)) (k : List UInt8) : (vals l k).length ≤ l.length := by
  unfold vals
  rw [List.length_map]
  exact List.length_filter_le _ _
def ints (l : List Nat) : List Int := l.map Int.ofNat
def WInv (w : World) (G base : Nat) (l : List (List UInt8 × Nat)) (vs : List UInt8 → Option Value) : Prop :=
  TMap Tryz.prog 9 w G l.length vs ∧ (∀ k, vs k = none ↔ vals l k = []) ∧ (∀ k v, vs k = some v → w.ownsInts base 23 .u64 v (ints (vals l k))) ∧
    (∀ k k' v v', vs k = some v → vs k' = some v' → k ≠ k' → v.ownBlock = none ∨ v.ownBlock ≠ v'.ownBlock) ∧ G < base ∧ base ≤ w.heap.size
theorem WInv.made (w : World) : WInv (w.alloc (.map #[] 0)) w.heap.size (w.heap.size + 1) [] fun _ => none :=
  ⟨TMap.made w, fun k => by simp [vals], fun k v h => by simp at h, fun k k' v v' h => by simp at h, by omega, by simp⟩
theorem WInv.nil {w : World} {G base : Nat} {l : List (List UInt8 × Nat)} {vs : List UInt8 → Option Value} (h : WInv w G base l vs) (k : List UInt8) : w.ownsInts base 23 .u64 ((vs k).getD (.slice none 0 0)) (ints (vals l k)) := by
  cases hv : vs k with
  | none =>
    rw [(h.2.1 k).1 hv]
    exact World.ownsInts_nil _ _ _ _
  | some v => exact h.2.2.1 k v hv
/-- behind an append at a key's own row, and the store of what it gave -/
theorem WInv.step {w w1 w2 : World} {G base : Nat} {l : List (List UInt8 × Nat)} {vs : List UInt8 → Option Value} (h : WInv w G base l vs) {k : List UInt8} {n : Nat} {v' : Value} (hn : n < 18446744073709551616)
    (hg : w.grownBy w1 ((vs k).getD (.slice none 0 0)).ownBlock) (ho : w1.ownsRow base 23 1 v' ((ints (vals l k)).length + 1) ((ints (vals l k)).map (Value.int .u64) ++ [.int .u64 n]))
    (hloc : v'.ownBlock = ((vs k).getD (.slice none 0 0)).ownBlock ∨ ∃ g, v'.ownBlock = some g ∧ w.heap.size ≤ g)
    (hT : TMap Tryz.prog 9 w2 G (l.length + 1) fun k' => if k' = k then some v' else vs k') (hg2 : w1.grownBy w2 (some G)) : WInv w2 G base (l ++ [(k, n)]) fun k' => if k' = k then some v' else vs k' := by
  obtain ⟨h1, h2, h3, h4, h5, h6⟩ := h
  have hoi : w.ownsInts base 23 .u64 ((vs k).getD (.slice none 0 0)) (ints (vals l k)) := WInv.nil ⟨h1, h2, h3, h4, h5, h6⟩ k
  have own_ne : ∀ {w : World} {u : Value} {ys : List Int}, w.ownsInts base 23 .u64 u ys → u.ownBlock = none ∨ u.ownBlock ≠ some G := fun {w u ys} ho => by
    cases hu : u.ownBlock with
    | none => exact Or.inl rfl
    | some g =>
      refine Or.inr (fun e1 => ?_)
      have := (ho.1.lt g hu).1
      cases e1
      omega
  have hapart : ∀ k' u, k' ≠ k → vs k' = some u → u.ownBlock = none ∨ u.ownBlock ≠ ((vs k).getD (.slice none 0 0)).ownBlock := by
    intro k' u hk hu
    cases hv : vs k with
    | none =>
      cases hub : u.ownBlock with
      | none => exact .inl rfl
      | some g => exact .inr (by simp [Value.ownBlock])
    | some v => exact h4 k' k u v hu hv hk
  have hv' := hoi.appended (x := (n : Int)) (by simpa using ho) (by simp [Lit.wf, IntKind.min, IntKind.max, IntKind.signed, IntKind.bits]; omega)
  refine ⟨by simpa using hT, ?_, ?_, ?_, h5, Nat.le_trans h6 (Nat.le_trans hg.size hg2.size)⟩
  · intro k'
    simp only [vals_snoc]
    by_cases hk : k' = k
    · subst hk; simp
    · have hk2 : ¬ k = k' := fun e => hk e.symm
      simp only [hk, hk2, if_false]
      exact h2 k'
  · intro k' u hu
    simp only [vals_snoc]
    by_cases hk : k' = k
    · subst hk
      simp only [if_true, Option.some.injEq] at hu ⊢
      subst hu
      have := hv'.kept hg2 (own_ne hv')
      simpa [ints] using this
    · have hk2 : ¬ k = k' := fun e => hk e.symm
      simp only [hk, hk2, if_false] at hu ⊢
      have := (h3 k' u hu).kept hg (hapart k' u hk hu)
      exact this.kept hg2 (own_ne this)
  · have old_new : ∀ k' u, k' ≠ k → vs k' = some u → u.ownBlock = none ∨ u.ownBlock ≠ v'.ownBlock := by
      intro k' u hk hu
      rcases hloc with e | ⟨g, e, hge⟩
      · rw [e]; exact hapart k' u hk hu
      · cases hub : u.ownBlock with
        | none => exact .inl rfl
        | some g' =>
          refine .inr fun e2 => ?_
          rw [e] at e2
          cases e2
          have := ((h3 k' u hu).1.lt _ hub).2
          omega
    intro k1 k2 u1 u2 hu1 hu2 hne
    by_cases e1 : k1 = k
    · by_cases e2 : k2 = k
      · exact absurd (e1.trans e2.symm) hne
      · simp only [e1, e2, if_true, if_false, Option.some.injEq] at hu1 hu2
        subst hu1
        rcases old_new k2 u2 e2 hu2 with h | h
        · cases hb : v'.ownBlock with
          | none => exact .inl rfl
          | some g => exact .inr (by rw [h]; simp)
        · exact .inr fun e => h e.symm
    · by_cases e2 : k2 = k
      · simp only [e1, e2, if_true, if_false, Option.some.injEq] at hu1 hu2
        subst hu2
        exact old_new k1 u1 e1 hu1
      · simp only [e1, e2, if_false] at hu1 hu2
        exact h4 k1 k2 u1 u2 hu1 hu2 hne
end Go.Proofs.Tryz
namespace Go.Proofs.Tryz
open Go Go.Sx Go.Sm Go.RowKit
/-- the acts lie in memory -/
def Acts (w : World) (b off : Nat) (l : List (List UInt8 × Nat)) : Prop :=
  ∀ j (h : j < l.length), w.cell? ⟨b, off + j * 2, none⟩ = some (.string ⟨(l[j]).1.toArray⟩) ∧ w.cell? ⟨b, off + j * 2 + 1, none⟩ = some (.int .u64 ((l[j]).2 : Nat))

theorem zero33 (w : World) : (zeroValue 33).run Tryz.prog w = .ok (.slice none 0 0) w := by kernel_rfl

set_option maxRecDepth 100000 in
set_option maxHeartbeats 400000 in
theorem lists (b off cap : Nat) (l : List (List UInt8 × Nat)) (w : World) (hb : b < w.heap.size) (hl : l.length ≤ 100) (hL : Acts w b off l) (hk : ∀ p ∈ l, p.1.length ≤ maxLen) (hn : ∀ p ∈ l, p.2 < 18446744073709551616) :
    Calls Tryz.prog 9 #[.slice (some ⟨b, off, none⟩) l.length cap] w fun e w' => e = .returned (.map (some w.heap.size)) ∧ (∃ vs, WInv w' w.heap.size (w.heap.size + 1) l vs) ∧ Below w.heap.size w w' := by
  have hmm := @run_makeMap Tryz.prog
  have HL := Lib.hid hL
  have HK := Lib.hid hk
  have HN := Lib.hid hn
  clear hL hk hn
  go_enter Tryz.func9, Tryz.ntmps9
  go_wp2
  go_loopw [9] (fun i wr => ∃ k : Nat, k ≤ l.length ∧ i = .int .i64 k ∧ (∃ vs, WInv wr w.heap.size (w.heap.size + 1) (l.take k) vs) ∧ Below w.heap.size w wr) (fun i _ => l.length - (intOf i).toNat)
  case atStart => exact ⟨0, Nat.zero_le _, rfl, ⟨_, WInv.made w⟩, (Below.refl _ _).alloc (Nat.le_refl _) _⟩
  case round =>
    obtain ⟨k, hk, rfl, ⟨vs, hW⟩, hbl⟩ := hrel
    by_cases hlt : k < l.length
    · obtain ⟨c0, c1⟩ := HL.out k hlt
      have hc0 : wr.cell? ⟨b, off + k * 2, none⟩ = some (.string ⟨(l[k]).1.toArray⟩) := (hbl.cell (p := ⟨b, off + k * 2, none⟩) hb).trans c0
      have hc1 : wr.cell? ⟨b, off + k * 2 + 1, none⟩ = some (.int .u64 ((l[k]).2 : Nat)) := (hbl.cell (p := ⟨b, off + k * 2 + 1, none⟩) hb).trans c1
      have hkl := HK.out _ (List.getElem_mem hlt)
      have hnl := HN.out _ (List.getElem_mem hlt)
      have hts : l.take (k + 1) = l.take k ++ [((l[k]).1, (l[k]).2)] := by rw [List.take_succ_eq_append_getElem hlt]
      obtain ⟨key, hkey⟩ : ∃ x, x = (l[k]).1 := ⟨_, rfl⟩
      obtain ⟨n, hnn⟩ : ∃ x, x = (l[k]).2 := ⟨_, rfl⟩
      rw [← hkey] at hc0 hkl hts
      rw [← hnn] at hc1 hnl hts
      have HT := Lib.hid hts
      have HW := Lib.hid hW
      clear c0 c1 hkey hnn hts hW
      go_wp2
      have hoi := HW.out.nil key
      have hWT := HW.out.1
      have hG := HW.out.2.2.2.2
      have hvl : (ints (vals (l.take k) key)).length ≤ k := by
        have := vals_le (l.take k) key
        have h2 : (l.take k).length ≤ k := List.length_take_le _ _
        simp only [ints, List.length_map]; omega
      have hgb := heap_new0 wr (.cells #[.string ⟨key.toArray⟩, .int .u64 (n : Int)] 28)
      have hg1 := World.grownBy_alloc wr (.cells #[.string ⟨key.toArray⟩, .int .u64 (n : Int)] 28)
      obtain ⟨wa, hwa⟩ : ∃ wa, wa = wr.alloc (.cells #[.string ⟨key.toArray⟩, .int .u64 (n : Int)] 28) := ⟨_, rfl⟩
      have hsz : wa.heap.size = wr.heap.size + 1 := by rw [hwa]; simp
      rw [← hwa] at hgb hg1 ⊢
      obtain ⟨t, ht⟩ : ∃ t, t = wr.heap.size := ⟨_, rfl⟩
      rw [← ht] at hgb hsz ⊢
      have hload : ∀ w' : World, w'.heap[t]? = wa.heap[t]? → w'.cell? ⟨t, 0, none⟩ = some (.string ⟨key.toArray⟩) ∧ w'.cell? ⟨t, 1, none⟩ = some (.int .u64 (n : Int)) := fun w' h => by
        rw [hgb] at h
        constructor <;> simp [World.cell?, h]
      have hTa : TMap Tryz.prog 9 wa w.heap.size (l.take k).length vs := hWT.kept (hg1 none) (by simp)
      have hT2 : TMap Tryz.prog 9 (wa.drew.alloc (.cells #[.int .u64 (n : Int)] 23)) w.heap.size (l.take k).length vs := TMap.kept (w := wa.drew) hTa (World.grownBy_alloc _ _ none) (by simp)
      have hSt : (wa.drew.alloc (.cells #[.int .u64 (n : Int)] 23)).heap[t]? = wa.heap[t]? := by
        show (wa.heap.push _)[t]? = wa.heap[t]?
        rw [Array.getElem?_push, if_neg (by omega)]
      have hown2 : (wa.drew.alloc (.cells #[.int .u64 (n : Int)] 23)).ownsRow (w.heap.size + 1) 23 1 ((vs key).getD (.slice none 0 0)) (ints (vals (l.take k) key)).length ((ints (vals (l.take k) key)).map (Value.int .u64)) := by
        have h1 := hoi.1.kept (hg1 none) (by cases ((vs key).getD (.slice none 0 0)).ownBlock <;> simp)
        exact (show wa.drew.ownsRow (w.heap.size + 1) 23 1 _ _ _ from h1).alloc _
      have hbase2 : w.heap.size + 1 ≤ (wa.drew.alloc (.cells #[.int .u64 (n : Int)] 23)).heap.size := by simp; omega
      have htne : some t ≠ ((vs key).getD (.slice none 0 0)).ownBlock := by
        intro e
        have := (hoi.1.lt t e.symm).2
        omega
      have hGne : some w.heap.size ≠ ((vs key).getD (.slice none 0 0)).ownBlock := by
        intro e
        have := (hoi.1.lt _ e.symm).1
        omega
      have hlk : (l.take k).length = k := by simp; omega
      obtain ⟨i0, hi, hz0, hz1, hz2⟩ := info_parts Tryz.size23
      have HLO := Lib.hid hload
      have ht1 : t < wa.heap.size := by omega
      have ht2 : w.heap.size < t := by omega
      have ht3 : t < (wa.drew.alloc (.cells #[.int .u64 (n : Int)] 23)).heap.size := by simp; omega
      have ht4 : wr.heap.size ≤ (wa.drew.alloc (.cells #[.int .u64 (n : Int)] 23)).heap.size := by simp; omega
      have hb8 : (ints (vals (l.take k) key)).length + 1 ≤ maxLen := by simp only [maxLen]; omega
      have hb9 : ((ints (vals (l.take k) key)).length + 1) * 8 ≤ 140737488355328 := by omega
      have hkm : (l.take k).length < maxLen := by simp only [maxLen]; omega
      have HH := Lib.hid (And.intro ht (And.intro hsz hlk))
      clear hload hc0 hc1 ht hsz hlk
      refine region_start (S := fun w' : World => w'.heap[t]? = wa.heap[t]?) 12 #[false, false, false, false, false, false, false, false, false, false, false, false] mixed rfl rfl ?_
      refine takeQ 0 #[true, false, false, false, false, false, false, false, false, false, false, false] (some 13) (v := .map (some w.heap.size)) rfl (by kernel_rfl) (fun _ _ _ h => h) rfl (fun w' hw' => rfl) rfl rfl rfl ?_
      simp only [Act.put, List.setIfInBounds_toArray, List.set_cons_zero, List.set_cons_succ]
      refine takeQ 1 #[true, true, false, false, false, false, false, false, false, false, false, false] (some 14) (v := .pointer (some ⟨t, 0, none⟩)) rfl (by kernel_rfl) (fun _ _ _ h => h) rfl (fun w' hw' => by go_simp) rfl rfl rfl ?_
      simp only [Act.put, List.setIfInBounds_toArray, List.set_cons_zero, List.set_cons_succ]
      refine takeQ 2 #[true, true, true, false, false, false, false, false, false, false, false, false] (some 15) (v := .string ⟨key.toArray⟩) rfl (by kernel_rfl) (fun _ _ _ h => h) rfl (fun w' hw' => by have h := (HLO.out w' hw').1; go_simp) rfl rfl rfl ?_
      simp only [Act.put, List.setIfInBounds_toArray, List.set_cons_zero, List.set_cons_succ]
      refine takeQ 3 #[true, true, true, true, false, false, false, false, false, false, false, false] (some 16) (v := .map (some w.heap.size)) rfl (by kernel_rfl) (fun _ _ _ h => h) rfl (fun w' hw' => rfl) rfl rfl rfl ?_
      simp only [Act.put, List.setIfInBounds_toArray, List.set_cons_zero, List.set_cons_succ]
      refine takeQ 4 #[true, true, true, true, true, false, false, false, false, false, false, false] (some 17) (v := .pointer (some ⟨t, 0, none⟩)) rfl (by kernel_rfl) (fun _ _ _ h => h) rfl (fun w' hw' => by go_simp) rfl rfl rfl ?_
      simp only [Act.put, List.setIfInBounds_toArray, List.set_cons_zero, List.set_cons_succ]
      refine takeQ 5 #[true, true, true, true, true, true, false, false, false, false, false, false] (some 18) (v := .string ⟨key.toArray⟩) rfl (by kernel_rfl) (fun _ _ _ h => h) rfl (fun w' hw' => by have h := (HLO.out w' hw').1; go_simp) rfl rfl rfl ?_
      simp only [Act.put, List.setIfInBounds_toArray, List.set_cons_zero, List.set_cons_succ]
      refine takeQ 7 #[true, true, true, true, true, true, false, true, false, false, false, false] (some 20) (v := .pointer (some ⟨t, 1, none⟩)) rfl (by kernel_rfl) (fun _ _ _ h => h) rfl (fun w' hw' => by go_simp) rfl rfl rfl ?_
      simp only [Act.put, List.setIfInBounds_toArray, List.set_cons_zero, List.set_cons_succ]
      refine takeQ 8 #[true, true, true, true, true, true, false, true, true, false, false, false] (some 21) (v := .int .u64 (n : Int)) rfl (by kernel_rfl) (fun _ _ _ h => h) rfl (fun w' hw' => by have h := (HLO.out w' hw').2; go_simp) rfl rfl rfl ?_
      simp only [Act.put, List.setIfInBounds_toArray, List.set_cons_zero, List.set_cons_succ]
      refine take2 6 9 #[true, true, true, true, true, true, true, true, true, false, false, false] #[true, true, true, true, true, true, false, true, true, true, false, false] #[true, true, true, true, true, true, true, true, true, true, false, false] (some 19) (some 22) (vi := (vs key).getD (.slice none 0 0)) (vj := .slice (some ⟨wa.heap.size, 0, none⟩) 1 1) (w' := wa.drew.alloc (.cells #[.int .u64 (n : Int)] 23)) (by kernel_rfl) rfl rfl rfl rfl rfl rfl rfl rfl rfl rfl (by kernel_rfl) (by kernel_rfl) rfl rfl
        (exec_lookup_T _ _ rfl (show TMap Tryz.prog 9 wa.drew w.heap.size _ vs from hTa) Tryz.underlying9 Tryz.underlying31 (zero33 _) key hkl _ rfl rfl rfl) (by go_simp) (by go_simp)
        (exec_lookup_T _ _ rfl (TMap.kept (w := wa.drew) hTa (World.grownBy_alloc _ _ none) (by simp)) Tryz.underlying9 Tryz.underlying31 (zero33 _) key hkl _ rfl rfl rfl) rfl rfl hSt ?_
      simp only [Act.put, List.setIfInBounds_toArray, List.set_cons_zero, List.set_cons_succ]
      refine takeE 10 #[true, true, true, true, true, true, true, true, true, true, true, false] (some 23) (by kernel_rfl) rfl rfl rfl rfl fun K hK => ?_
      refine wp_append_own_at _ _ 33 rfl (w.heap.size + 1) 23 i0 (.int .u64 0) 1 8 Tryz.underlying33 hi hz0 hz1 hz2 rfl (by decide) ((vs key).getD (.slice none 0 0)) (ints (vals (l.take k) key)).length ((ints (vals (l.take k) key)).map (Value.int .u64)) rfl hown2 ⟨wa.heap.size, 0, none⟩ 1 1 [.int .u64 (n : Int)] rfl rfl (cell_one_new wa.drew _ _) (by intro u hu; simp at hu; subst hu; rfl) hb8 hb9 hbase2 ?_
      intro v' w3 hown3 hgrow hnil hloc
      refine hK _ _ ?_ ?_
      · exact (hgrow.block t ht3 htne).trans hSt
      clear hK K
      simp only [Act.put, List.setIfInBounds_toArray, List.set_cons_zero, List.set_cons_succ]
      refine takeE 11 #[true, true, true, true, true, true, true, true, true, true, true, true] none (by kernel_rfl) rfl rfl rfl rfl fun K hK => ?_
      refine wp_update_T _ _ _ rfl (TMap.kept hT2 hgrow hGne) Tryz.underlying9 Tryz.underlying31 hkm key hkl v' rfl rfl rfl ?_
      intro w4 hT4 hg4
      have h3s := hgrow.size
      refine hK _ _ ?_ ?_
      · exact (hg4.block t (Nat.lt_of_lt_of_le ht3 h3s) (by intro e; cases e; omega)).trans ((hgrow.block t ht3 htne).trans hSt)
      clear hK K
      refine wpAnyH_done (by kernel_rfl) ?_ _
      have hall : wr.grownBy w3 ((vs key).getD (.slice none 0 0)).ownBlock := (hg1 _).trans (have hx := (World.grownBy_alloc wa.drew _ _ : wa.drew.grownBy _ _).trans hgrow; ⟨hx.os, hx.tape, hx.output, hx.size, hx.block⟩)
      have hfin := HW.out.step (k := key) (n := n) (v' := v') hnl hall (by simpa using hown3) (hloc.imp id fun h => ⟨_, h, ht4⟩) (by simpa using hT4) hg4
      have hB := hbl.groups hoi hall hg4 hbl.size (Nat.le_succ _) (Nat.le_refl _)
      rw [← HT.out] at hfin
      have HF := Lib.hid hfin
      clear hfin hT4 hT2 hTa hWT hoi hown2 hown3
      go_wp2
      go_roundw
      case rel => exact ⟨k + 1, by omega, by go_num, ⟨_, HF.out⟩, hB⟩
      case measure => simp [intOf]; omega
    · obtain rfl : k = l.length := by omega
      rw [List.take_length] at hW
      have HW := Lib.hid hW
      clear hW
      go_wp2
      go_ret
      exact ⟨rfl, ⟨_, HW.out⟩, hbl⟩
end Go.Proofs.Tryz
namespace Go.Proofs.Tryz
open Go Go.Sx Go.Sm Go.RowKit
def sumL : List Nat → Nat
  | [] => 0
  | x :: l => x + sumL l
theorem sumL_snoc (l : List Nat) (x : Nat) : sumL (l ++ [x]) = sumL l + x := by
  induction l with
  | nil => simp [sumL]
  | cons y l ih => simp [sumL, ih]; omega
def leastL : List Nat → Nat
  | [] => 0
  | x :: l => l.foldl (fun m y => if y < m then y else m) x
theorem leastL_snoc (l : List Nat) (x : Nat) (h : l ≠ []) : leastL (l ++ [x]) = if x < leastL l then x else leastL l := by
  cases l with
  | nil => exact absurd rfl h
  | cons y l => simp only [leastL, List.cons_append, List.foldl_append, List.foldl_cons, List.foldl_nil]; rfl
def mostL (l : List Nat) : Nat := l.foldl (fun m y => if y > m then y else m) 0
theorem mostL_snoc (l : List Nat) (x : Nat) : mostL (l ++ [x]) = if x > mostL l then x else mostL l := by simp [mostL, List.foldl_append]
def cntL (l : List Nat) (c : Nat) : Nat := (l.filter fun x => decide (Lib.bitLen x = c)).length
theorem cntL_snoc (l : List Nat) (x c : Nat) : cntL (l ++ [x]) c = cntL l c + if Lib.bitLen x = c then 1 else 0 := by
  unfold cntL
  rw [List.filter_append]
  by_cases h : Lib.bitLen x = c <;> simp [h]
theorem cntL_le (l : List Nat) (c : Nat) : cntL l c ≤ l.length := List.length_filter_le _ _
def specF (l : List Nat) (i : Nat) : Nat :=
  if i = 0 then l.length else if i = 1 then sumL l % 18446744073709551616 else if i = 2 then leastL l else if i = 3 then mostL l else cntL l (i - 4)
theorem specF_nil (i : Nat) : specF [] i = 0 := by
  unfold specF
  simp [sumL, leastL, mostL, cntL]
theorem plus_spec (l : List Nat) (x : Nat) (hl : l.length ≤ 100) (hx : x < 18446744073709551616) {i : Nat} (hi : i < 69) : plusF (specF l) (oneF x) i = specF (l ++ [x]) i := by
  have h1 : oneF x 0 ≠ 0 := by simp [oneF]
  have hb := bitLen_le64 x hx
  unfold plusF
  rw [if_neg h1]
  by_cases h0 : specF l 0 = 0
  · rw [if_pos h0]
    have : l = [] := by
      unfold specF at h0; simp at h0; exact h0
    subst this
    unfold oneF specF
    by_cases e0 : i = 0
    · simp [e0]
    by_cases e1 : i = 1
    · simp [e1, sumL]; omega
    by_cases e2 : i = 2
    · simp [e2, leastL]
    by_cases e3 : i = 3
    · simp [e3, mostL]
    have e4 : ¬ i < 4 := by omega
    rw [if_neg e0, if_neg e4, if_neg e0, if_neg e1, if_neg e2, if_neg e3]
    simp only [List.nil_append, cntL, List.filter_cons, List.filter_nil]
    by_cases e5 : i = 4 + Lib.bitLen x
    · rw [if_pos e5]
      have : Lib.bitLen x = i - 4 := by omega
      simp [this]
    · rw [if_neg e5]
      have : ¬ Lib.bitLen x = i - 4 := by omega
      simp [this]
  · rw [if_neg h0]
    have hne : l ≠ [] := by
      intro e; subst e; exact h0 (by simp [specF])
    have hc := cntL_le l (i - 4)
    unfold specF oneF
    by_cases e0 : i = 0
    · simp [e0]; omega
    by_cases e1 : i = 1
    · simp [e1, sumL_snoc]
    by_cases e2 : i = 2
    · simp [e2, leastL_snoc l x hne]
    by_cases e3 : i = 3
    · simp [e3, mostL_snoc]
    have e4 : ¬ i < 4 := by omega
    simp only [e0, e1, e2, e3, e4, if_false]
    rw [cntL_snoc]
    by_cases e5 : i = 4 + Lib.bitLen x
    · have : Lib.bitLen x = i - 4 := by omega
      rw [if_pos e5, if_pos this]; omega
    · have : ¬ Lib.bitLen x = i - 4 := by omega
      rw [if_neg e5, if_neg this]; omega
end Go.Proofs.Tryz
