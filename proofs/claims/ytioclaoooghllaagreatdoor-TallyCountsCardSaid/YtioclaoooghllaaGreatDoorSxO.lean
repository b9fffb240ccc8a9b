/-
  The abstract executor, part O: calls and operations within a frame.
  No condition: definitions and lemmas.
-/
import Derived.Test.YtioclaoooghllaaGreatDoorSxN
namespace Go.Sx
open Go.Instr

section
variable {P : Program} {G : Nat} {ρ : Env}

/-! ### Callees -/
def TgtRel (P : Program) (ρ : Env) (R : Rl) (w : World) : Tgt → Deferred → Prop
  | .fn f args, d => ∃ us : Array Value, VRels ρ R args us.toList ∧ (invoke d.target d.args).run P w = (callFunc f us).run P w
  | .yield l args, d => ∃ (bl : Nat) (us : Array Value), R.blk l = some bl ∧ VRels ρ R args us.toList ∧ (invoke d.target d.args).run P w = (Instr.yield bl us).run P w

theorem callMethod_ok {R : Rl} {w : World} {recv v : AVal} {u : Value} {name : String} {f : FuncId} {args : List AVal} {us : Array Value} (hr : VRel ρ R recv u) (hm : methA P recv name = some (f, v)) (ha : VRels ρ R args us.toList) :
    ∃ us' : Array Value, VRels ρ R (v :: args) us'.toList ∧ (callMethod u name us).run P w = (callFunc f us').run P w := by
  obtain ⟨t, x, rfl, hx, hmeth, _⟩ := methA_ok (P := P) (w := w) hr hm
  refine ⟨#[x] ++ us, ?_, ?_⟩
  · simpa using VRels.cons hx ha
  · have hdep : P.types.size + Made.depth = (P.types.size + 99) + 1 := rfl
    simp only [callMethod, Sem.run_bind, run_program, Result.andThen_ok, hdep, hmeth]

theorem resolve_ok {R : Rl} {w : World} {ev : Operand → Option AVal} {σ : Operand → Value} {c : Call} {ty : TypeId} {t : Tgt} (he : EvOk ρ R ev σ c.operands.toList) (hp : resolveA P ev c = some t) :
    ∃ d, (resolve σ c ty).run P w = .ok d w ∧ TgtRel P ρ R w t d := by
  unfold resolveA at hp
  split at hp
  · cases hp
  rename_i args hargs
  have ha : VRels ρ R args (c.args.map σ).toList := by
    have := evL_ok (σ := σ) (fun y hy v hv => he y (by simp only [Call.operands, Array.toList_append, List.mem_append]; exact .inr hy) v hv) hargs
    simpa using this
  obtain ⟨callee, cargs, cts⟩ := c
  simp only at hp ha
  split at hp
  · rename_i f
    have hf : ∀ v, ev f = some v → VRel ρ R v (σ f) := fun v hv => he f (by simp [Call.operands]) v hv
    split at hp
    · rename_i fid first captured hev
      cases hp
      obtain ⟨g, fs, cs, hg, hq, h1, h2⟩ := hf _ hev
      cases hg
      refine ⟨{ target := .fn (.func fid) cs, args := fs ++ cargs.map σ }, ?_, (fs ++ cargs.map σ) ++ cs, ?_, rfl⟩
      · simp only [resolve, hq, Deferred.ofValue]; rfl
      · have := (h1.append ha).append h2
        simpa using this
    · rename_i l first captured hev
      cases hp
      obtain ⟨g, fs, cs, ⟨bl, hb, rfl⟩, hq, h1, h2⟩ := hf _ hev
      refine ⟨{ target := .fn (.yield bl) cs, args := fs ++ cargs.map σ }, ?_, bl, fs ++ cargs.map σ, hb, ?_, rfl⟩
      · simp only [resolve, hq, Deferred.ofValue]; rfl
      · simpa using h1.append ha
    · rename_i name first captured hev
      obtain ⟨g, fs, cs, hg, hq, h1, h2⟩ := hf _ hev
      cases hg
      have hall : VRels ρ R (first ++ args) (fs ++ cargs.map σ).toList := by simpa using h1.append ha
      split at hp
      · rename_i recv rest hsplit
        rw [hsplit] at hall
        obtain ⟨u, us', hus, hu, hrest⟩ := hall
        split at hp
        · rename_i f' v hm
          cases hp
          have hext : (fs ++ cargs.map σ) = #[u] ++ us'.toArray := by apply Array.ext'; simpa using hus
          obtain ⟨us2, q1, q2⟩ := callMethod_ok (P := P) (w := w) (us := us'.toArray) hu hm (by simpa using hrest)
          refine ⟨{ target := .fn (.method name) cs, args := fs ++ cargs.map σ }, ?_, us2, q1, ?_⟩
          · simp only [resolve, hq, Deferred.ofValue]; rfl
          · rw [← q2]
            simp only [invoke, hext]
            have e1 : (#[u] ++ us'.toArray)[0]? = some u := by simp
            have e2 : (#[u] ++ us'.toArray).extract 1 (#[u] ++ us'.toArray).size = us'.toArray := by
              apply Array.ext'
              simp
            simp only [e1, e2]
        · cases hp
      · cases hp
    · cases hp
  · rename_i recv name
    split at hp
    · rename_i rv hev
      have hr := he recv (by simp [Call.operands]) _ hev
      split at hp
      · rename_i f v hm
        cases hp
        obtain ⟨us', q1, q2⟩ := callMethod_ok (P := P) (w := w) hr hm ha
        refine ⟨{ target := .fn (.method name) #[], args := #[σ recv] ++ cargs.map σ }, by simp [resolve], us', q1, ?_⟩
        rw [← q2]
        simp only [invoke]
        obtain ⟨ca, hca⟩ : ∃ ca, ca = cargs.map σ := ⟨_, rfl⟩
        rw [← hca]
        have e1 : (#[σ recv] ++ ca)[0]? = some (σ recv) := by rw [Array.getElem?_append_left (by simp)]; rfl
        have e2 : (#[σ recv] ++ ca).extract 1 (#[σ recv] ++ ca).size = ca := by
          apply Array.ext'
          simp [List.take_of_length_le]
        simp only [e1, e2]
      · cases hp
    · cases hp
  · cases hp

/-! ### What comes of an operation -/
/-- A round of a range over a function comes back with a value. -/
def RoundGives (P : Program) (l : Nat) (f : FuncId) (tmps : Array Value) (assign body : Code) (w : World) (Q : Value → World → Prop) : Prop :=
  ∀ c cs, ∃ u w', Q u w' ∧ Steps P (lone (Frame.round l f tmps assign body .normal) (c :: cs) w) (lone (c.finish u) cs w')

def NextOk (P : Program) (nx : Next) (w1 : World) (Q : Value → World → Prop) : Prop :=
  match nx with
  | .value u => Q u w1
  | .skip => Q Go.undef w1
  | .enter f args => Calls P f args w1 fun e w' => ∃ u, e = .returned u ∧ Q u w'
  | .round l f tmps assign body => RoundGives P l f tmps assign body w1 Q
  | _ => False

theorem NextOk.mono {nx : Next} {w1 : World} {Q Q' : Value → World → Prop} (h : NextOk P nx w1 Q) (hq : ∀ u w, Q u w → Q' u w) : NextOk P nx w1 Q' := by
  cases nx <;> first
    | exact hq _ _ h
    | exact Calls.mono h fun e w' ⟨u, he, hu⟩ => ⟨u, he, hq _ _ hu⟩
    | exact fun c cs => let ⟨u, w', h1, h2⟩ := h c cs; ⟨u, w', hq _ _ h1, h2⟩
    | exact h

theorem apply_next {fr0 fr : Frame} {cs : List Frame} {w0 w w1 : World} {s : Sem Next} {nx : Next} {Q : Value → World → Prop}
    (hg : (stepG P true { frame := fr0, callers := cs, status := .running, dying := none } w0).bare = (stepG.apply P true fr cs none s w).bare)
    (hk : ∀ d r x k, fr.todo ≠ .call d true r x :: k) (hr : s.run P w = .ok nx w1) (hn : NextOk P nx w1 Q) :
    ∃ u w', Q u w' ∧ Steps P (lone fr0 cs w0) (lone (fr.finish u) cs w') := by
  cases nx <;> simp only [NextOk] at hn
  · rename_i u
    refine ⟨u, w1, hn, .one (step_lone_go ?_)⟩
    rw [hg]; simp [stepG.apply, Sem.runT_eq, hr, GStep.bare_after]
  · refine ⟨Go.undef, w1, hn, .one (step_lone_go ?_)⟩
    rw [hg]; simp [stepG.apply, Sem.runT_eq, hr, GStep.bare_after]
  · rename_i f args
    obtain ⟨e, w', fr', ⟨u, rfl, hu⟩, hsteps, _, hleave⟩ := hn (fr :: cs)
    refine ⟨u, w', hu, .head (step_lone_go ?_) (hsteps.trans (.one (step_leave_returned hleave)))⟩
    rw [hg]; simp only [stepG.apply, Sem.runT_eq, hr, GStep.bare_after]; simp
  · rename_i l f tmps assign body
    obtain ⟨u, w', hu, hsteps⟩ := hn fr cs
    refine ⟨u, w', hu, .head (step_lone_go ?_) hsteps⟩
    rw [hg]; simp only [stepG.apply, Sem.runT_eq, hr, GStep.bare_after]; simp
end
end Go.Sx
