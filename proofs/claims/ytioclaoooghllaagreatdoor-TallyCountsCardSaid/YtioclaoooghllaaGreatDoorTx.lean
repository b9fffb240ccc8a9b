/-
  Seat a: a row is equal to itself.
  No condition.
-/
import Derived.Laws.StructEq
import Derived.ChangeKeysEq
import Derived.Test.YtioclaoooghllaaGreatDoorTo
import Derived.Test.YtioclaoooghllaaGreatDoorTw
import Derived.Laws.Cover1
namespace Go.Proofs.Tryz
open Go Go.Sx Go.Sm Go.RowKit
theorem eqFields_refl {d : Nat} {xs : Array Value} {w : World} : ∀ (fs : List Field), (∀ f ∈ fs, ∃ a, (part f.type xs f.offset).run Tryz.prog w = .ok a w ∧ (Op.equalIn d f.type a a).run Tryz.prog w = .ok true w) → (Op.eqFields d xs xs fs).run Tryz.prog w = .ok true w
  | [], _ => by simp [Op.eqFields]
  | f :: fs, h => by
    obtain ⟨a, h1, h2⟩ := h f (by simp)
    have ih := eqFields_refl fs (fun g hg => h g (by simp [hg]))
    simp only [Op.eqFields]
    split
    · simp [h1, h2, Result.andThen, ih]
    · exact ih
theorem eqItems_refl {d n : Nat} {e : TypeId} {xs : Array Value} {w : World} : ∀ (is : List Nat), (∀ i ∈ is, ∃ a, (part e xs (i * n)).run Tryz.prog w = .ok a w ∧ (Op.equalIn d e a a).run Tryz.prog w = .ok true w) → (Op.eqItems d e n xs xs is).run Tryz.prog w = .ok true w
  | [], _ => by simp [Op.eqItems]
  | f :: fs, h => by
    obtain ⟨a, h1, h2⟩ := h f (by simp)
    have ih := eqItems_refl fs (fun g hg => h g (by simp [hg]))
    simp only [Op.eqItems]
    simp [h1, h2, Result.andThen, ih]
theorem part23 (xs : Array Value) (i : Nat) (v : Value) (w : World) (h : xs[i]? = some v) : (part 23 xs i).run Tryz.prog w = .ok v w := by
  simp [part, isAgg, run_underlying Tryz.underlying23, h, Result.andThen]
theorem eqInt (d : Nat) (n : Int) (w : World) : (Op.equalIn (d + 1) 23 (.int .u64 n) (.int .u64 n)).run Tryz.prog w = .ok true w := by
  rw [run_equalIn_int w d 23 .u64 .u64 n n Tryz.underlying23]
  simp
theorem cells23 : Tryz.prog.cellsOf 23 = 1 := by kernel_rfl
theorem eqRow_of (t : TypeId) (ht : Tryz.prog.underlying t = some (.struct (Tryz.prog.fieldsOf t))) (hp : Tryz.prog.stoodInHeld t = false)
    (hf : ((Tryz.prog.fieldsOf t).toList.map fun f => (f.type, f.offset)) = [(23, 0), (23, 1), (23, 2), (23, 3), (34, 4)]) (F : Nat → Nat) (w : World) :
    (Op.equalIn 10000 t (.agg (rowA F)) (.agg (rowA F))).run Tryz.prog w = .ok true w := by
  rw [run_equalIn_agg w 9999 t _ _ ht hp]
  refine eqFields_refl _ fun f hm => ?_
  have hm2 : (f.type, f.offset) ∈ ((Tryz.prog.fieldsOf t).toList.map fun f => (f.type, f.offset)) := List.mem_map_of_mem hm
  rw [hf] at hm2
  have hint : ∀ i, i < 69 → ∃ a, (part 23 (rowA F) i).run Tryz.prog w = .ok a w ∧ (Op.equalIn 9999 23 a a).run Tryz.prog w = .ok true w := fun i hi =>
    ⟨_, part23 _ i _ w (rowA_at F hi), eqInt 9998 _ w⟩
  simp only [List.mem_cons, Prod.mk.injEq, List.not_mem_nil, or_false] at hm2
  rcases hm2 with ⟨h1, h2⟩ | ⟨h1, h2⟩ | ⟨h1, h2⟩ | ⟨h1, h2⟩ | ⟨h1, h2⟩
  · rw [h1, h2]; exact hint 0 (by omega)
  · rw [h1, h2]; exact hint 1 (by omega)
  · rw [h1, h2]; exact hint 2 (by omega)
  · rw [h1, h2]; exact hint 3 (by omega)
  · rw [h1, h2]
    cases hq : Tryz.prog.info? 34 with
    | none => have := size34; rw [hq] at this; cases this
    | some i34 =>
    have hs : i34.size = 65 := by have := size34; rw [hq] at this; simpa using this
    cases hq2 : Tryz.prog.info? 23 with
    | none => have h0 : (Tryz.prog.info? 23).isSome = true := by kernel_rfl
              rw [hq2] at h0; cases h0
    | some i23 =>
    refine ⟨.agg ((rowA F).extract 4 69), ?_, ?_⟩
    · simp [part, isAgg, run_underlying Tryz.underlying34, sizeOf, typeInfo, hq, hs, Result.andThen]
    · rw [run_equalIn_array w 9998 _ _ Tryz.underlying34 hq2, cells23]
      refine eqItems_refl _ fun i hi => ?_
      have hi2 : i < 65 := by simpa using hi
      refine ⟨.int .u64 (F (4 + i) : Nat), part23 _ _ _ w ?_, eqInt 9997 _ w⟩
      rw [Nat.mul_one, Array.getElem?_extract]
      simp [rowA_size]
      exact ⟨hi2, rowA_at F (i := 4 + i) (by omega)⟩
theorem eqRow67 (F : Nat → Nat) (w : World) : (Op.equalIn 10000 67 (.agg (rowA F)) (.agg (rowA F))).run Tryz.prog w = .ok true w := eqRow_of 67 (by kernel_rfl) (by kernel_rfl) (by kernel_rfl) F w
theorem eqRow36 (F : Nat → Nat) (w : World) : (Op.equalIn 10000 36 (.agg (rowA F)) (.agg (rowA F))).run Tryz.prog w = .ok true w := eqRow_of 36 (by kernel_rfl) (by kernel_rfl) (by kernel_rfl) F w
end Go.Proofs.Tryz
namespace Go.Proofs.Tryz
open Go Go.Sx Go.Sm Go.RowKit Go.Maps Go.Sort Go.Shelf
theorem guard67 : Tryz.prog.eqGuardType Tryz.prog.depth 67 = false := by kernel_rfl
theorem neq_op {o : Oper} {a : Act} {w : World} {F : Nat → Nat} (x y : Operand) (t' : TypeId) (ho : o.op = .binOp .neq 67 x y t') (hx : a.eval x = .agg (rowA F)) (hy : a.eval y = .agg (rowA F)) : (execOp a.eval o).run Tryz.prog w = .ok (.value (.bool false)) w := by
  unfold execOp
  simp only [ho, hx, hy, Sem.run_bind, Sem.run_pure, Result.andThen_ok, run_eqGuard_agg w .neq 67 x y _ _ guard67, run_neq_struct w 67, eqRow67]
  rfl
theorem leq_op {o : Oper} {a : Act} {w : World} {p q : List UInt8} (x y : Operand) (t' : TypeId) (ho : o.op = .binOp .leq 9 x y t') (hx : a.eval x = .string ⟨p.toArray⟩) (hy : a.eval y = .string ⟨q.toArray⟩) (h : q < p) : (execOp a.eval o).run Tryz.prog w = .ok (.value (.bool false)) w := by
  unfold execOp
  simp only [ho, hx, hy, Sem.run_bind, Sem.run_pure, Result.andThen_ok]
  have h1 : Op.bytesLess p q = false := by rw [bytesLess_eq, decide_eq_false_iff_not]; exact List.lt_asymm h
  have h2 : (p == q) = false := by
    rw [beq_eq_false_iff_ne]; intro e; subst e; exact List.lt_irrefl _ h
  rw [binOp_string_leq]
  have e1 : (⟨p.toArray⟩ : ByteArray).toList = p := by rw [ByteArray.toList_eq]
  have e2 : (⟨q.toArray⟩ : ByteArray).toList = q := by rw [ByteArray.toList_eq]
  rw [e1, e2, h1, h2]
  go_simp
end Go.Proofs.Tryz
