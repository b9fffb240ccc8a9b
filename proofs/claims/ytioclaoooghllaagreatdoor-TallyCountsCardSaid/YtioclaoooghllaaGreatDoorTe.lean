/-
  Seat a: the class of a share.
  No condition.
-/
import Derived.Test.YtioclaoooghllaaGreatDoorTd
import Derived.Laws.Rows
import Derived.Outline
namespace Go.Proofs
open Go.RowKit Go.Shelf
namespace Tryz
theorem size23 : (Tryz.prog.info? 23).map (fun i => (i.zero, i.size, i.bytes)) = some (some (.int .u64 0), 1, 8) := by kernel_rfl
theorem size34 : (Tryz.prog.info? 34).map (·.size) = some 65 := by kernel_rfl
theorem size36 : (Tryz.prog.info? 36).map (·.size) = some 69 := by kernel_rfl
theorem run_idx {A : Array Value} {k : Nat} {v : Value} (hk : k < 65) (hv : A[k]? = some v) (w : World) : (Instr.index 34 (.agg A) (.int .i64 (k : Int))).run Tryz.prog w = .ok v w := by
  obtain ⟨i0, hi, hz0, hz1, hz2⟩ := info_parts Tryz.size23
  have h : (0 : Int) ≤ k ∧ (k : Int) < (65 : Nat) := by omega
  simp [Instr.index, run_underlying Tryz.underlying34, asIntOf, h, go_sem, sizeOf, typeInfo, hi, hz1, part, isAgg, run_underlying Tryz.underlying23, hv]
  omega

theorem run_loadVar_part {P : Program} (w : World) (g off n : Nat) (t ty : TypeId) (cs : Array Value) (fr : Nat × Nat) (d : TypeDesc) (hg : w.heap[g]? = some (.cells cs t fr))
    (hu : P.underlying ty = some d) (hd : (match d with | .struct _ | .array _ _ => true | _ => false) = true) (hi : (P.info? ty).map (·.size) = some n) (hn : off + n ≤ cs.size) :
    (loadVar ty ⟨g, off, none⟩).run P w = .ok (.agg (cs.extract off (off + n))) w := by
  have hlen : (cs.extract off (off + n)).toList.length = n := by simp; omega
  have hl : (loadCells ⟨g, off, none⟩ (cs.extract off (off + n)).toList.length).run P w = .ok (cs.extract off (off + n)).toList.toArray w :=
    run_loadCells_list (P := P) w ⟨g, off, none⟩ (cs.extract off (off + n)).toList (fun j v hv => by
      have hadd : (⟨g, off, none⟩ : Addr).add j = ⟨g, off + j, none⟩ := by unfold Addr.add; split <;> simp_all
      rw [hadd, cell_of_row w g (off + j) cs t fr hg]
      have hj : j < n := by
        rcases Nat.lt_or_ge j n with h | h
        · exact h
        · rw [List.getElem?_eq_none (by omega)] at hv; cases hv
      rw [Array.getElem?_toList, Array.getElem?_extract] at hv
      simpa [show j < min (off + n) cs.size - off by omega] using hv)
  rw [hlen] at hl
  cases hq : P.info? ty with
  | none => simp [hq] at hi
  | some i =>
    have hs : i.size = n := by simpa [hq] using hi
    have hagg : (isAgg ty).run P w = .ok true w := by
      unfold isAgg
      rw [Sem.run_bind, run_underlying hu w]
      cases d <;> simp_all
    simp only [Array.toArray_toList] at hl
    simp [loadVar, Sem.run_bind, hagg, sizeOf, typeInfo, hq, hs, hl]
theorem wpList_load_part {P : Program} {ops : Array Oper} {rest : List Oper} {o : Oper} {a : Act} {w : World} {Q : Exit → Act → World → Prop} (hgd : o.guard = none) (ty : TypeId) (x : Operand) (ho : o.op = .load ty x)
    (g off n : Nat) (hx : a.eval x = .pointer (some ⟨g, off, none⟩)) (t : TypeId) (cs : Array Value) (fr : Nat × Nat) (d : TypeDesc) (hg : w.heap[g]? = some (.cells cs t fr))
    (hu : P.underlying ty = some d) (hd : (match d with | .struct _ | .array _ _ => true | _ => false) = true) (hi : (P.info? ty).map (·.size) = some n) (hn : off + n ≤ cs.size)
    (h : wpList P ops Q rest (a.put o.dst (.agg (cs.extract off (off + n)))) w) : wpList P ops Q (o :: rest) a w := by
  refine wpList_plain hgd fun _ hK => ?_
  unfold Oper.wp execOp
  simp only [ho, hx, Instr.loadAt, Instr.sureAddr, Sem.run_bind, Sem.run_pure, Result.andThen_ok, run_loadVar_part w g off n t ty cs fr d hg hu hd hi hn]
  exact hK _ _ h

theorem heap_new (w : World) (o : Obj) (n : Nat) : ((w.alloc o).drewN n).heap[w.heap.size]? = some o := by
  show (w.heap.push o)[w.heap.size]? = some o
  simp
theorem below_alloc_drewN (w : World) (o : Obj) (n : Nat) : Below w.heap.size w ((w.alloc o).drewN n) :=
  ⟨rfl, rfl, rfl, by show w.heap.size ≤ (w.heap.push o).size; simp, fun k hk => by show (w.heap.push o)[k]? = w.heap[k]?; rw [Array.getElem?_push, if_neg (by omega)]⟩
def sumTo (g : Nat → Nat) : Nat → Nat
  | 0 => 0
  | k + 1 => sumTo g k + g k
def search (p : Nat → Bool) : Nat → Nat → Nat
  | 0, _ => 64
  | f + 1, i => if p i then i else search p f (i + 1)
theorem search_step (p : Nat → Bool) {k : Nat} (h : k < 65) : search p (65 - k) k = if p k then k else search p (65 - (k + 1)) (k + 1) := by
  rw [show 65 - k = (65 - (k + 1)) + 1 by omega, search]
def atN (g : Nat → Nat) (c s f : Nat) : Nat := if c = 0 ∨ f = 0 ∨ s = 0 then 0 else search (fun i => decide (needN c s f ≤ sumTo g (i + 1))) 65 0

theorem ret_i {a b : Nat} (h : a = b) : Ending.returned (.int .i64 (a : Int)) = .returned (.int .i64 (b : Int)) := by rw [h]
theorem extract_at {A : Array Value} {k : Nat} {v : Value} (h : A[4 + k]? = some v) (hk : k < 65) : (A.extract 4 (4 + 65))[k]? = some v := by
  have := (Array.getElem?_eq_some_iff.1 h).1
  rw [Array.getElem?_extract, if_pos (by omega)]
  exact h
set_option maxRecDepth 20000 in
theorem at_any (A : Array Value) (g : Nat → Nat) (c s f : Nat) (hA : A.size = 69) (h0 : A[0]? = some (.int .u64 c)) (hg : ∀ k, k < 65 → A[4 + k]? = some (.int .u64 (g k))) (hc : c ≤ 100) (hs : s < 18446744073709551616) (hf : f < 18446744073709551616)
    (hc0 : 0 < c) (hf0 : 0 < f) (hs0 : 0 < s) (hsum : ∀ k, k ≤ 65 → sumTo g k ≤ 100) (w : World) :
    Calls Tryz.prog 11 #[.agg A, .int .u64 s, .int .u64 f] w fun e w' => e = .returned (.int .i64 (search (fun i => decide (needN c s f ≤ sumTo g (i + 1))) 65 0 : Nat)) ∧ Below w.heap.size w w' := by
  have hn := need c s f hc hs
  have hA' : 0 < A.size := by rw [hA]; omega
  have h0' : A[0]'hA' = .int .u64 c := (Array.getElem?_eq_some_iff.1 h0).2
  have HS := Lib.hid hsum
  clear hsum
  have HA := Lib.hid hA
  have HG := Lib.hid hg
  have H0 := Lib.hid h0
  have HN := Lib.hid hn
  clear hA hg h0 hn
  have hc0' : ((c : Int) == 0) = false := by simp; omega
  have hf0' : ((f : Int) == 0) = false := by simp; omega
  have hs0' : ((s : Int) == 0) = false := by simp; omega
  go_enter Tryz.func11, Tryz.ntmps11
  go_wp2_with (first
    | (go_at_call 22; refine (HN.out hf0 hf _).mono ?_; rintro e w' ⟨rfl, nd, rfl⟩)
    | (refine wpList_load_part rfl 34 _ rfl w.heap.size 4 65 rfl 36 A (0, 0) _ (heap_new _ _ _) Tryz.underlying34 rfl Tryz.size34 (by have := HA.out; omega) ?_))
  go_loop [29, 8] (fun i t => ∃ k : Nat, k ≤ 65 ∧ i = .int .i64 (k : Int) ∧ t = .int .u64 (sumTo g k : Nat) ∧ search (fun i => decide (needN c s f ≤ sumTo g (i + 1))) 65 0 = search (fun i => decide (needN c s f ≤ sumTo g (i + 1))) (65 - k) k) (fun i _ => 65 - (intOf i).toNat)
  case atStart => exact ⟨0, by omega, rfl, rfl, rfl⟩
  case round =>
    obtain ⟨k, hk, rfl, rfl, hse⟩ := hrel
    by_cases hlt : k < 65
    · have hix := fun w => run_idx hlt (extract_at (HG.out k hlt) hlt) w
      have hb1 := HS.out k (by omega)
      have hb2 := HS.out (k + 1) (by omega)
      have e1 : sumTo g (k + 1) = sumTo g k + g k := rfl
      have hg1 : g k ≤ 100 := by omega
      have E1 := Lib.hid e1
      replace hse := hse.trans (search_step _ hlt)
      clear e1 hb2
      by_cases hn : needN c s f ≤ sumTo g (k + 1)
      · rw [if_pos (by simpa using hn)] at hse
        rw [E1.out] at hn
        have hn' : decide ((needN c s f : Int) ≤ (sumTo g k : Int) + (g k : Int)) = true := by simp; omega
        have HE := Lib.hid hse
        clear hn hse
        go_wp2
        go_ret
        exact ⟨ret_i HE.out.symm, below_alloc_drewN _ _ _⟩
      · rw [if_neg (by simpa using hn)] at hse
        rw [E1.out] at hn
        have hn' : decide ((needN c s f : Int) ≤ (sumTo g k : Int) + (g k : Int)) = false := by simp; omega
        have HE := Lib.hid hse
        clear hn hse
        go_wp2
        go_round
        case rel => exact ⟨k + 1, by omega, by go_num, by rw [E1.out]; go_num, HE.out⟩
        case measure => simp [intOf]; omega
    · obtain rfl : k = 65 := by omega
      have HE := Lib.hid hse
      clear hse
      go_wp2
      go_ret
      exact ⟨ret_i HE.out.symm, below_alloc_drewN _ _ _⟩
end Tryz
end Go.Proofs
