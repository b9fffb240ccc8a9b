/-
  The abstract executor, part W: calls at symbolic arguments.
  No condition: lemmas.
-/
import Derived.Test.YtioclaoooghllaaGreatDoorSxV
import Derived.Test.YtioclaoooghllaaGreatDoorProg
import Derived.KernelRfl
namespace Go.Sx
open Go.Instr Go.RowKit
variable {P : Program} {G : Nat}

/-- A call at arguments that name no block of memory. -/
theorem calls_of_exec {ρ : Env} (hmix : P.follows .mixedOrders = true) (hpl : PlainFuncs P) {prim : Prim} (hprim : PrimOk P G prim) (fuel : Nat) {f : FuncId} {fn : Func} (hf : P.funcs[f]? = some fn) (hb : fn.body.isSome = true) {args : List AVal} {us : Array Value}
    (hus : ∀ R, VRels ρ R args us.toList) {Q : AVal → Prop} (hsat : (exec P G prim fuel (.call f args ⟨.nil, G⟩ fun v _ => .done v)).sat ρ Q) (W : World) :
    Calls P f us W fun e w' => (∃ u R v, e = .returned u ∧ Q v ∧ VRel ρ R v u) ∧ Below W.heap.size W w' := by
  obtain ⟨c, hb⟩ := Option.isSome_iff_exists.1 hb
  have hglob : GlobOk (Rl.glob G) G := fun g hg => by simp [Rl.glob, hg]
  have hi : MemInv ρ (Rl.glob G) ⟨.nil, G⟩ W := by
    refine ⟨fun id x hx => by simp at hx, fun id id' x x' b hx => by simp at hx, fun id hid => ?_⟩
    have : ¬ id < G := Nat.not_lt.2 hid
    simp [Rl.glob, this]
  obtain ⟨nx, w1, h1, h2⟩ := exec_ok (ρ := ρ) (Post := Q) hmix hpl hprim fuel (.call f args ⟨.nil, G⟩ fun v _ => .done v) hsat (Rl.glob G) W us hi hglob (hus _)
  rw [run_callFunc hpl hf hb] at h1
  cases h1
  refine Calls.mono h2 ?_
  rintro e w' ⟨u, rfl, R', v, m', hv, _, hs, hk⟩
  exact ⟨⟨u, R', v, rfl, hk, hv⟩, hs.below fun id x hx => by simp at hx⟩

theorem sat_ite {τ : Type} {ρ : Env} {Q : τ → Prop} {c : BE} {t e : Tree τ} (h1 : c.den ρ = true → t.sat ρ Q) (h2 : c.den ρ = false → e.sat ρ Q) : (Tree.ite c t e).sat ρ Q := by
  cases h : c.den ρ with
  | true => simp only [Tree.sat, h, if_true]; exact h1 h
  | false => simp only [Tree.sat, h, Bool.false_eq_true, if_false]; exact h2 h
theorem VRels_ints (ρ : Env) (R : Rl) (k : IntKind) : ∀ (l : List IE) (vs : List Value), VRels ρ R (l.map (.int k)) vs ↔ vs = l.map fun e => .int k (e.den ρ)
  | [], vs => by simp [VRels]
  | e :: l, vs => by
    simp only [List.map_cons, VRels, VRels_ints ρ R k l]
    constructor
    · rintro ⟨v, vs', rfl, h1, rfl⟩
      simp only [VRel] at h1
      rw [h1]
    · rintro rfl
      exact ⟨_, _, rfl, by simp [VRel], rfl⟩
theorem VRel_agg_ints {ρ : Env} {R : Rl} {k : IntKind} {l : List IE} {v : Value} : VRel ρ R (.agg (l.map (.int k))) v ↔ v = .agg (l.map fun e => .int k (e.den ρ)).toArray := by
  simp only [VRel, VRels_ints]
  constructor
  · rintro ⟨vs, rfl, h⟩
    rw [← h]
  · rintro rfl
    exact ⟨_, rfl, by simp⟩
end Go.Sx
namespace Go.Proofs.Tryz
open Go Go.Sx Go.RowKit
theorem mixed : Tryz.prog.follows .mixedOrders = true := by kernel_rfl
theorem plain : PlainFuncs Tryz.prog := plain_of (by kernel_rfl)
end Go.Proofs.Tryz
