/-
  The abstract executor, part N: that operations and calls do what is reckoned of them.
  No condition: definitions and lemmas.
-/
import Derived.Test.YtioclaoooghllaaGreatDoorSxM
namespace Go.Sx
open Go.Instr

/-! ### What a frame's state stands for -/
def TmRelD (ρ : Env) (R : Rl) (D : Nat → Prop) (nt : Nat) (tm : Tr AVal) (tmps : Array Value) : Prop :=
  tmps.size = nt ∧ ∀ t, ¬ D t → VRel ρ R (tmv tm t) (tmps.getD t Go.undef)
def noD : Nat → Prop := fun _ => False
theorem TmRelD.full {ρ : Env} {R : Rl} {nt : Nat} {tm : Tr AVal} {tmps : Array Value} : TmRelD ρ R noD nt tm tmps ↔ TmRel ρ R nt tm tmps :=
  ⟨fun h => ⟨h.1, fun t => h.2 t (fun x => x)⟩, fun h => ⟨h.1, fun t _ => h.2 t⟩⟩
theorem TmRelD.mono {ρ : Env} {R R' : Rl} {D : Nat → Prop} (h : R.le R') {nt : Nat} {tm : Tr AVal} {tmps : Array Value} (e : TmRelD ρ R D nt tm tmps) : TmRelD ρ R' D nt tm tmps :=
  ⟨e.1, fun t ht => VRel.mono h _ _ (e.2 t ht)⟩

def MarksRel (R : Rl) : List Nat → List Deferred → Prop
  | [], ds => ds = []
  | id :: ids, ds => ∃ b ds', ds = { target := .collected b, args := #[] } :: ds' ∧ R.blk id = some b ∧ MarksRel R ids ds'
theorem MarksRel.mono {R R' : Rl} (h : R.le R') : ∀ {l : List Nat} {ds : List Deferred}, MarksRel R l ds → MarksRel R' l ds
  | [], _, e => e
  | _ :: _, _, ⟨b, ds', e, hb, hr⟩ => ⟨b, ds', e, (h _ _ hb).1, hr.mono h⟩

def GlobOk (R : Rl) (G : Nat) : Prop := ∀ g, g < G → R.blk g = some g
theorem GlobOk.mono {R R' : Rl} {G : Nat} (h : GlobOk R G) (hle : R.le R') : GlobOk R' G := fun g hg => (hle _ _ (h g hg)).1

structure Now (ρ : Env) (G : Nat) (R : Rl) (D : Nat → Prop) (s : AS) (a : Act) (w : World) : Prop where
  mem : MemInv ρ R s.m w
  glob : GlobOk R G
  tm : TmRelD ρ R D s.nt s.tm a.tmps
  marks : MarksRel R s.marks a.defers

section
variable {P : Program} {G : Nat} {ρ : Env}

theorem Now.put {R : Rl} {D : Nat → Prop} {s : AS} {a : Act} {w : World} (h : Now ρ G R D s a w) (dst : Option Tmp) {v : AVal} {u : Value} (hv : VRel ρ R v u) : Now ρ G R D (s.put dst v) (a.put dst u) w := by
  cases dst with
  | none => exact h
  | some d =>
    unfold AS.put Act.put
    simp only
    split
    · rename_i hlt
      have hlt := blt_true hlt
      refine ⟨h.mem, h.glob, ⟨by simpa using h.tm.1, fun t ht => ?_⟩, h.marks⟩
      have hs := h.tm.1
      by_cases e : t = d
      · subst e
        have e1 : tmv (s.tm.set t v) t = v := by simp [tmv, Tr.get_set]
        have e2 : (a.tmps.setIfInBounds t u).getD t Go.undef = u := by
          simp [Array.getD, hs, hlt]
        rw [e1, e2]; exact hv
      · have e1 : tmv (s.tm.set d v) t = tmv s.tm t := by simp [tmv, Tr.get_set, e]
        have e2 : (a.tmps.setIfInBounds d u).getD t Go.undef = a.tmps.getD t Go.undef := by
          rw [Array.getD_eq_getD_getElem?, Array.getD_eq_getD_getElem?, Array.getElem?_setIfInBounds_ne (fun x => e x.symm)]
        rw [e1, e2]; exact h.tm.2 t ht
    · rename_i hlt
      have hlt : ¬ d < s.nt := fun x => by rw [show Nat.blt d s.nt = true from Nat.ble_eq_true_of_le x] at hlt; cases hlt
      have : a.tmps.setIfInBounds d u = a.tmps := Array.setIfInBounds_eq_of_size_le (by rw [h.tm.1]; exact Nat.le_of_not_lt hlt)
      rw [this]; exact h

theorem Now.mem' {R R' : Rl} {D : Nat → Prop} {s : AS} {a : Act} {w w' : World} {m' : AM} (h : Now ρ G R D s a w) (hm : MemInv ρ R' m' w') (hs : MStep R s.m w R' m' w') : Now ρ G R' D (s.mem m') a w' :=
  have hle := hs.le h.mem
  ⟨hm, h.glob.mono hle, h.tm.mono hle, h.marks.mono hle⟩

/-- No temporary that the operation looks at is open. -/
def Clear (D : Nat → Prop) (ops : Array Oper) (o : Oper) : Prop := ∀ t ∈ o.looksAt ops, ¬ D t

theorem evA_ok {R : Rl} {D : Nat → Prop} {s : AS} {a : Act} {w : World} (h : Now ρ G R D s a w) {x : Operand} {v : AVal} (hx : ∀ t, x = .tmp t → ¬ D t) (hv : evA G s.tm x = some v) : VRel ρ R v (a.eval x) := by
  cases x with
  | tmp t =>
    simp only [evA, Option.some.injEq] at hv
    subst hv
    exact h.tm.2 t (hx t rfl)
  | const c => exact absV_rel ρ R hv
  | global g =>
    simp only [evA] at hv
    split at hv
    · rename_i hg
      cases hv
      exact ⟨g, h.glob g (blt_true hg), rfl⟩
    · cases hv
  | func f =>
    simp only [evA, Option.some.injEq] at hv
    subst hv
    exact ⟨.func f, #[], #[], rfl, rfl, rfl, rfl⟩

theorem evOk_of {R : Rl} {D : Nat → Prop} {s : AS} {a : Act} {w : World} (h : Now ρ G R D s a w) {ops : Array Oper} {o : Oper} (hc : Clear D ops o) : EvOk ρ R (evA G s.tm) a.eval o.op.operands.toList := by
  intro x hx v hv
  refine evA_ok h (fun t ht => hc t ?_) hv
  subst ht
  unfold Oper.looksAt
  refine List.mem_append.2 (.inl ?_)
  rw [List.mem_filterMap]
  exact ⟨_, hx, rfl⟩

theorem want_ok {R : Rl} {D : Nat → Prop} {s : AS} {a : Act} {w : World} (h : Now ρ G R D s a w) {ops : Array Oper} {o : Oper} (hc : Clear D ops o) :
    match wantA ops s.tm o.guard with
    | .yes => Region.wanted o (yielded ops a.tmps) = true
    | .no => Region.wanted o (yielded ops a.tmps) = false
    | .on c want => Region.wanted o (yielded ops a.tmps) = (c.den ρ == want) := by
  unfold wantA
  cases hg : o.guard with
  | none => simp [Region.wanted, hg]
  | some g =>
    obtain ⟨j, want⟩ := g
    simp only
    cases hj : ops[j]? with
    | none => simp [Region.wanted, hg, yielded, hj]
    | some q =>
      simp only
      cases hd : q.dst with
      | none => simp [Region.wanted, hg, yielded, hj, hd]
      | some t =>
        simp only
        have hnD : ¬ D t := hc t (by
          unfold Oper.looksAt
          refine List.mem_append.2 (.inr ?_)
          simp [hg, hj, hd])
        have hrel := h.tm.2 t hnD
        have hy : yielded ops a.tmps j = match a.tmps[t]? with | some (.bool b) => some b | _ => none := by
          simp only [yielded, hj, Option.bind_some, hd]
          cases a.tmps[t]? with
          | none => rfl
          | some v => cases v <;> rfl
        have hval : ∀ v : Value, a.tmps.getD t Go.undef = v → (match a.tmps[t]? with | some (.bool b) => some b | _ => none) = (match v with | .bool b => some b | _ => none) := by
          intro v hv
          rw [Array.getD_eq_getD_getElem?] at hv
          cases ht : a.tmps[t]? with
          | none => rw [ht] at hv; subst hv; rfl
          | some u => rw [ht] at hv; simp only [Option.getD_some] at hv; subst hv; cases u <;> rfl
        have key : ∀ v : Value, a.tmps.getD t Go.undef = v → Region.wanted o (yielded ops a.tmps) = ((match v with | .bool b => some b | _ => none) == some want) := by
          intro v hv
          rw [Region.wanted, hg]
          simp only
          rw [hy, hval _ hv]
        have other : (∀ b : Bool, a.tmps.getD t Go.undef ≠ .bool b) → Region.wanted o (yielded ops a.tmps) = false := by
          intro hne
          rw [key _ rfl]
          generalize hv : a.tmps.getD t Go.undef = v at hne
          cases v <;> first
            | exact (hne _ rfl).elim
            | rfl
        generalize tmv s.tm t = y at hrel
        cases y with
        | bool e =>
          have hrel := VRel_bool hrel
          have hw := key _ hrel
          cases e with
          | lit b => cases b <;> cases want <;> simpa [BE.den] using hw
          | _ =>
            simp only
            rw [hw]
            generalize BE.den ρ _ = q
            cases q <;> cases want <;> rfl
        | _ =>
          simp only
          refine other (fun b hb => ?_)
          rw [hb] at hrel
          simp [VRel] at hrel
end
end Go.Sx
