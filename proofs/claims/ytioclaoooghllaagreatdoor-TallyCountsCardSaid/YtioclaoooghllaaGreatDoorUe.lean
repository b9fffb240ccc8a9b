/-
  Seat a: TallyCounts, its first part.
  No condition.
-/
import Derived.Test.YtioclaoooghllaaGreatDoorUa
import Derived.Test.YtioclaoooghllaaGreatDoorTy
import Derived.Test.YtioclaoooghllaaGreatDoorTz
import Derived.Test.YtioclaoooghllaaGreatDoorSb
namespace Go.Proofs.Tryz
open Go Go.Sx Go.Sm Go.RowKit Go.Maps Go.Sort Go.Shelf
attribute [local go_sem] Oper.semAt_some wide_depth wide_fn
set_option maxRecDepth 100000 in
set_option maxHeartbeats 4000000 in
theorem merge_nil (p : Option Addr) (w : World) (hE : EmptyI w p) : Calls Tryz.prog 14 #[.pointer none, .pointer p] w fun e w' => e = .returned (.tuple #[]) ∧ RowKit.Below w.heap.size w w' := by
  refine (callsIn_wide (n := 0)).1 ?_
  refine callsIn_of_wp_marks Tryz.func14 rfl trivial ?_ rfl
  simp only [Tryz.ntmps14, List.size_toArray, List.length_cons, List.length_nil, Nat.reduceAdd, Nat.reduceSub, Array.replicate_succ, Array.replicate_zero, List.push_toArray, List.append_toArray, List.nil_append, List.cons_append]
  have HE := Lib.hid hE
  clear hE
  gi_wp2_with (gi_at_call 16; refine (iall_any _ _).mono ?_; rintro e w' ⟨rfl, rfl⟩)
  obtain ⟨W0, hW0⟩ : ∃ W0, (w.alloc (.cells #[.pointer none] 40)).alloc (.cells #[.pointer p] 40) = W0 := ⟨_, rfl⟩
  have hb0 : RowKit.Below w.heap.size w W0 := by rw [← hW0]; exact ((RowKit.Below.refl _ w).alloc (Nat.le_refl _) _).alloc (by simp) _
  have hs0 : W0.heap.size = w.heap.size + 2 := by rw [← hW0]; simp
  have cp : W0.cell? ⟨w.heap.size + 1, 0, none⟩ = some (.pointer p) := by rw [← hW0]; simp
  rw [hW0]
  have hE0 := HE.out.below hb0 (Nat.le_refl _)
  refine wpIn_rangeFunc_all (α := Unit) (gf := 24) (lb := #[.pointer (some ⟨w.heap.size + 1, 0, none⟩)]) rfl (enters_of Tryz.func24 (by kernel_rfl) rfl) (iall1_runs (w.heap.size + 1) p) (fun _ => rfl) (fun _ => False) (fun k hk => hk.elim)
    (fun w' hw' => ⟨(hw'.cell (p := ⟨w.heap.size + 1, 0, none⟩) (by simp; omega)).trans cp, hE0.below hw' (Nat.le_refl _)⟩)
    (fun pre W' => pre = [] ∧ RowKit.Below w.heap.size w W')
    (fun s A B hs hab => ⟨hs.1, hs.2.trans (hab.mono (by omega))⟩)
    ⟨rfl, hb0⟩ ?round ?done
  case round =>
    intro l2 pre x post W1 _ hx
    simp at hx
  case done =>
    rintro W1 ⟨_, hbw1⟩ _ hK
    rw [hs0] at hK
    gi_wp2
    refine ⟨by simp, .inl ⟨_, _, rfl, run_takeDeferred hK, ?_⟩⟩
    refine ⟨_, results_none rfl _ _ _, rfl, ?_⟩
    exact hbw1.trans ((But.putObj (fun k => k = w.heap.size + 2) W1 (w.heap.size + 2) (.deferred none) rfl).below (fun k h1 h2 => by omega) hbw1.size)
set_option maxRecDepth 100000 in
theorem lists_none (a : Option Addr) (cap : Nat) (w : World) : Calls Tryz.prog 9 #[.slice a 0 cap] w fun e w' => e = .returned (.map (some w.heap.size)) ∧ (∃ vs, WInv w' w.heap.size (w.heap.size + 1) [] vs) ∧ RowKit.Below w.heap.size w w' := by
  have hmm := @run_makeMap Tryz.prog
  go_enter Tryz.func9, Tryz.ntmps9
  go_wp2
  go_loop [9] (fun i => i = .int .i64 0) (fun _ => 0)
  case atStart => rfl
  case round =>
    obtain rfl := hrel
    go_wp2
    go_ret
    exact ⟨rfl, ⟨_, WInv.made w⟩, (RowKit.Below.refl _ w).alloc (Nat.le_refl _) _⟩
end Go.Proofs.Tryz
namespace Go.Proofs.Tryz
open Go Go.Sx Go.Sm Go.RowKit Go.Maps Go.Sort Go.Shelf
theorem guard36 : Tryz.prog.eqGuardType Tryz.prog.depth 36 = false := by kernel_rfl
theorem eqlT_op {o : Oper} {a : Act} {w : World} {F : Nat → Nat} (x y : Operand) (t' : TypeId) (ho : o.op = .binOp .eql 36 x y t') (hx : a.eval x = .agg (rowA F)) (hy : a.eval y = .agg (rowA F)) : (execOp a.eval o).run Tryz.prog w = .ok (.value (.bool true)) w := by
  unfold execOp
  simp only [ho, hx, hy, Sem.run_bind, Sem.run_pure, run_eqGuard_agg w .eql 36 x y _ _ guard36, Result.andThen_ok, run_eql_struct w 36, eqRow36]
theorem head36 : ((Tryz.prog.fieldsOf 36).toList.head?.map fun f => (decide (f.name ≠ "_"), f.type, f.offset)) = some (true, 23, 0) := by kernel_rfl
theorem neqRow36 (F H : Nat → Nat) (h : F 0 ≠ H 0) (w : World) : (Op.equalIn 10000 36 (.agg (rowA F)) (.agg (rowA H))).run Tryz.prog w = .ok false w := by
  rw [run_equalIn_agg w 9999 36 _ _ (by kernel_rfl) (by kernel_rfl)]
  have hh := head36
  generalize (Tryz.prog.fieldsOf 36).toList = fs at hh
  cases fs with
  | nil => simp at hh
  | cons f fs =>
    simp only [List.head?_cons, Option.map_some, Option.some.injEq, Prod.mk.injEq, decide_eq_true_eq] at hh
    obtain ⟨h1, h2, h3⟩ := hh
    simp only [Op.eqFields, if_pos h1, h2, h3, Sem.run_bind, part23 _ _ _ w (rowA_at F (by omega : 0 < 69)), part23 _ _ _ w (rowA_at H (by omega : 0 < 69)), Result.andThen_ok, run_equalIn_int w 9998 23 .u64 .u64 _ _ Tryz.underlying23]
    have : ((F 0 : Int) == (H 0 : Int)) = false := by rw [beq_eq_false_iff_ne]; omega
    simp [this]
theorem eqlF_op {o : Oper} {a : Act} {w : World} {F H : Nat → Nat} (x y : Operand) (t' : TypeId) (ho : o.op = .binOp .eql 36 x y t') (hx : a.eval x = .agg (rowA F)) (hy : a.eval y = .agg (rowA H)) (h : F 0 ≠ H 0) : (execOp a.eval o).run Tryz.prog w = .ok (.value (.bool false)) w := by
  unfold execOp
  simp only [ho, hx, hy, Sem.run_bind, Sem.run_pure, run_eqGuard_agg w .eql 36 x y _ _ guard36, Result.andThen_ok, run_eql_struct w 36, neqRow36 F H h]
theorem WInv.below {w w' : World} {n G base : Nat} {l : List (List UInt8 × Nat)} {vs : List UInt8 → Option Value} (h : WInv w G base l vs) (hb : RowKit.Below n w w') (hn : w.heap.size ≤ n) : WInv w' G base l vs := by
  obtain ⟨h1, h2, h3, h4, h5, h6⟩ := h
  have hg : w.grownBy w' none := ⟨hb.os, hb.tape, hb.output, hb.size, fun k hk _ => hb.block k (by omega)⟩
  refine ⟨h1.below hb (Nat.lt_of_lt_of_le h1.lt hn), h2, fun k v hv => (h3 k v hv).kept hg ?_, h4, h5, Nat.le_trans h6 hb.size⟩
  cases hq : v.ownBlock with
  | none => exact .inl rfl
  | some g => exact .inr (by simp)
end Go.Proofs.Tryz
