/-
  Maps keyed by strings, as functions from strings to values.
  No condition: definitions and laws.
-/
import Derived.WalkKit
import Derived.Maps.OwnSet
import Derived.Maps.OwnOps
import Derived.Maps.RangeWalk
import Derived.Sort.KeysCollected
namespace Go.Sm
open Go.RowKit Go.Maps Go.WideElems
/-- an element reads as itself -/
abbrev hd (v : Value) : Option (DataW Value × List MemPlace) := some (.held v, [])
/-- block b is a map of at most n entries: at the key k the value f k -/
def TMap (P : Program) (k0 : TypeId) (w : World) (b n : Nat) (f : List UInt8 → Option Value) : Prop :=
  ∃ D : DataW Value, w.ownsMap P k0 hd b n D ∧ ∀ k z, D.atKey (.string k) z = match f k with | some v => .held v | none => z
variable {P : Program} {k0 t e : TypeId} {w : World} {b n : Nat} {f : List UInt8 → Option Value}
theorem str_key (hk : P.underlying k0 = some .string) {k : List UInt8} (hl : k.length ≤ maxLen) : keyOf P k0 (.string ⟨k.toArray⟩) = some (.string k) := by
  have hm : (⟨k.toArray⟩ : ByteArray).size ≤ maxLen := by simpa [ByteArray.size] using hl
  simp [keyOf, hk, mapKey]
  exact hm
theorem TMap.made (w : World) : TMap P k0 (w.alloc (.map #[] 0)) w.heap.size 0 fun _ => none :=
  ⟨_, World.ownsMap_made _ _ _ _, fun k z => by simp [DataW.atKey]⟩
theorem TMap.mono (h : TMap P k0 w b n f) {m : Nat} (hm : n ≤ m) : TMap P k0 w b m f := by
  obtain ⟨D, h1, h2⟩ := h
  exact ⟨D, h1.mono hm, h2⟩
theorem TMap.lt (h : TMap P k0 w b n f) : b < w.heap.size := by
  obtain ⟨D, h1, h2⟩ := h
  exact h1.lt
theorem TMap.kept {w' : World} {row : Option Nat} (h : TMap P k0 w b n f) (hg : w.grownBy w' row) (hne : some b ≠ row) : TMap P k0 w' b n f := by
  obtain ⟨D, h1, h2⟩ := h
  exact ⟨D, h1.kept hg hne, h2⟩
theorem TMap.block {w' : World} (h : TMap P k0 w b n f) (hg : w'.heap[b]? = w.heap[b]?) : TMap P k0 w' b n f := by
  obtain ⟨D, ⟨es, clock, hb, F, hs, hD⟩, h2⟩ := h
  exact ⟨D, ⟨es, clock, hg.trans hb, F, hs, hD⟩, h2⟩
theorem TMap.below {w' : World} {B : Nat} (h : TMap P k0 w b n f) (hb : Below B w w') (hB : b < B) : TMap P k0 w' b n f := h.block (hb.block b hB)
theorem TMap.lookup (h : TMap P k0 w b n f) (hk : P.underlying k0 = some .string) (ht : P.underlying t = some (.map k0 e)) {z : Value} (hz : (zeroValue e).run P w = .ok z w) {k : List UInt8} (hl : k.length ≤ maxLen) :
    (Instr.lookup t (.map (some b)) (.string ⟨k.toArray⟩) false).run P w = .ok ((f k).getD z) w := by
  obtain ⟨D, h1, h2⟩ := h
  obtain ⟨v, ps, hrun, hv⟩ := h1.lookup (string_keyed hk) ht hz (zd := .held z) (zp := []) rfl (str_key hk hl)
  rw [hrun]
  rw [h2 k] at hv
  simp only [hd, Option.some.injEq, Prod.mk.injEq] at hv
  cases hf : f k with
  | none => rw [hf] at hv; simp at hv; simp [hv]
  | some u => rw [hf] at hv; simp at hv; simp [hv]
theorem TMap.has {D : DataW Value} (h : w.ownsMap P k0 hd b n D) (h2 : ∀ k z, DataW.atKey D (.string k) z = match f k with | some v => .held v | none => z) (k : List UInt8) : Maps.has D (.string k) = (f k).isSome := by
  cases hf : f k with
  | none => exact Maps.has_false_of_atKey fun z => by rw [h2, hf]
  | some u => exact Maps.has_true_of_atKey (y := .held u) fun z => by rw [h2, hf]
theorem TMap.look_ok (h : TMap P k0 w b n f) (hk : P.underlying k0 = some .string) (ht : P.underlying t = some (.map k0 e)) {z : Value} (hz : (zeroValue e).run P w = .ok z w) {k : List UInt8} (hl : k.length ≤ maxLen) :
    (Instr.lookup t (.map (some b)) (.string ⟨k.toArray⟩) true).run P w = .ok (.tuple #[(f k).getD z, .bool (f k).isSome]) w := by
  obtain ⟨D, h1, h2⟩ := h
  obtain ⟨v, ps, hrun, hv⟩ := h1.look_ok (string_keyed hk) ht hz (zd := .held z) (zp := []) rfl (str_key hk hl)
  rw [hrun, TMap.has h1 h2]
  rw [h2 k] at hv
  simp only [hd, Option.some.injEq, Prod.mk.injEq] at hv
  cases hf : f k with
  | none => rw [hf] at hv; simp at hv; simp [hv]
  | some u => rw [hf] at hv; simp at hv; simp [hv]
theorem TMap.update (h : TMap P k0 w b n f) (hk : P.underlying k0 = some .string) (ht : P.underlying t = some (.map k0 e)) (hn : n < maxLen) {k : List UInt8} (hl : k.length ≤ maxLen) (v : Value) :
    ∃ w', (Instr.mapUpdate t (.map (some b)) (.string ⟨k.toArray⟩) v).run P w = .ok () w' ∧ TMap P k0 w' b (n + 1) (fun k' => if k' = k then some v else f k') ∧ w.grownBy w' (some b) := by
  obtain ⟨D, h1, h2⟩ := h
  obtain ⟨w', hrun, r1, r2⟩ := h1.update (string_keyed hk) ht hn (d := .held v) (ps := []) (val := v) (str_key hk hl) rfl
  refine ⟨w', hrun, ⟨_, r1, fun k' z => ?_⟩, r2⟩
  by_cases hkk : k' = k
  · subst hkk
    rw [Maps.atKey_put_same h1.isMap ((string_keyed hk).key (str_key hk hl))]
    simp
  · rw [Maps.atKey_put_other (by simpa using hkk), h2]
    simp [hkk]
/-! ### at the operation -/
variable {ops : Array Oper} {rest : List Oper} {o : Oper} {a : Act} {Q : Exit → Act → World → Prop}
theorem wpList_lookup_T (hg : o.guard = none) (m x : Operand) (hop : o.op = Op.lookup t m x false) (h : TMap P k0 w b n f) (hk : P.underlying k0 = some .string) (ht : P.underlying t = some (.map k0 e)) {z : Value} (hz : (zeroValue e).run P w = .ok z w)
    (k : List UInt8) (hl : k.length ≤ maxLen) (v : Value) (hv : (f k).getD z = v) (hm : a.eval m = .map (some b)) (hx : a.eval x = .string ⟨k.toArray⟩) (hK : wpList P ops Q rest (a.put o.dst v) w) : wpList P ops Q (o :: rest) a w := by
  refine wpList_plain hg fun K' hK' => ?_
  unfold Oper.wp
  simp [execOp, hop, hm, hx, h.lookup hk ht hz hl, Result.andThen, hv]
  exact hK' _ _ hK
theorem wpList_look_ok_T (hg : o.guard = none) (m x : Operand) (hop : o.op = Op.lookup t m x true) (h : TMap P k0 w b n f) (hk : P.underlying k0 = some .string) (ht : P.underlying t = some (.map k0 e)) {z : Value} (hz : (zeroValue e).run P w = .ok z w)
    (k : List UInt8) (hl : k.length ≤ maxLen) (hm : a.eval m = .map (some b)) (hx : a.eval x = .string ⟨k.toArray⟩) (hK : wpList P ops Q rest (a.put o.dst (.tuple #[(f k).getD z, .bool (f k).isSome])) w) : wpList P ops Q (o :: rest) a w := by
  refine wpList_plain hg fun K' hK' => ?_
  unfold Oper.wp
  simp [execOp, hop, hm, hx, h.look_ok hk ht hz hl, Result.andThen]
  exact hK' _ _ hK
theorem wpList_update_T (hg : o.guard = none) (m x v : Operand) (hop : o.op = Op.mapUpdate t m x v) (h : TMap P k0 w b n f) (hk : P.underlying k0 = some .string) (ht : P.underlying t = some (.map k0 e)) (hn : n < maxLen)
    (k : List UInt8) (hl : k.length ≤ maxLen) (val : Value) (hm : a.eval m = .map (some b)) (hx : a.eval x = .string ⟨k.toArray⟩) (hv : a.eval v = val)
    (hK : ∀ w', TMap P k0 w' b (n + 1) (fun k' => if k' = k then some val else f k') → w.grownBy w' (some b) → wpList P ops Q rest (a.put o.dst undef) w') : wpList P ops Q (o :: rest) a w := by
  refine wpList_plain hg fun K' hK' => ?_
  obtain ⟨w', hrun, r1, r2⟩ := h.update hk ht hn hl val
  unfold Oper.wp
  simp [execOp, hop, hm, hx, hv, hrun, Result.andThen]
  exact hK' _ _ (hK w' r1 r2)
end Go.Sm
