/-
  The abstract executor, part L: the operations that turn memory, as one.
  No condition: definitions and lemmas.
-/
import Derived.Test.YtioclaoooghllaaGreatDoorSxK
namespace Go.Sx
open Go.Instr

section
variable {P : Program} {ρ : Env} {R : Rl} {w : World}

/-- What an operation that turns memory does. -/
def EfOk (P : Program) (ρ : Env) (R : Rl) (m : AM) (w : World) (s : Sem Next) (v : AVal) (m' : AM) : Prop :=
  ∃ R' nx u w', s.run P w = .ok nx w' ∧ (nx = .value u ∨ (nx = .skip ∧ u = Go.undef)) ∧ VRel ρ R' v u ∧ MemInv ρ R' m' w' ∧ MStep R m w R' m' w'

theorem EOk.next {m m' : AM} {s : Sem Value} {v : AVal} (h : EOk P ρ R m w s v m') : EfOk P ρ R m w (do pure (.value (← s))) v m' := by
  obtain ⟨R', u, w', h1, h2, h3, h4⟩ := h
  exact ⟨R', .value u, u, w', by simp [h1], .inl rfl, h2, h3, h4⟩
theorem UOk.next {m m' : AM} {s : Sem Unit} (h : UOk P ρ R m w s m') : EfOk P ρ R m w (do s; pure .skip) AVal.undef m' := by
  obtain ⟨R', w', h1, h3, h4⟩ := h
  exact ⟨R', .skip, Go.undef, w', by simp [h1], .inr ⟨rfl, rfl⟩, VRel.undef _ _, h3, h4⟩

theorem eff_ok {o : Oper} {m m' : AM} {ev : Operand → Option AVal} {σ : Operand → Value} {v : AVal} (hi : MemInv ρ R m w) (he : EvOk ρ R ev σ o.op.operands.toList) (hp : eff P m ev o.op = some (v, m')) :
    EfOk P ρ R m w (execOp σ o) v m' := by
  obtain ⟨dst, op, type, pos, after, guard⟩ := o
  simp only at he hp
  have uu : ∀ {q : Option AM}, (match q with | some m => some (AVal.undef, m) | none => none) = some (v, m') → q = some m' ∧ v = AVal.undef := by
    intro q hq; cases q with
    | none => cases hq
    | some x => cases hq; exact ⟨rfl, rfl⟩
  have ee : ∀ {x : Operand} {v : AVal}, x ∈ op.operands.toList → ev x = some v → VRel ρ R v (σ x) := fun hx hv => he _ hx _ hv
  unfold eff at hp
  split at hp
  · split at hp
    · rename_i ha hx
      obtain ⟨hq, rfl⟩ := uu hp
      exact UOk.next (effStore_ok hi (ee (by simp [Op.operands]) ha) (ee (by simp [Op.operands]) hx) hq)
    · cases hp
  · split at hp
    · rename_i ha hk hx
      obtain ⟨hq, rfl⟩ := uu hp
      exact UOk.next (effMapUpdate_ok hi (ee (by simp [Op.operands]) ha) (ee (by simp [Op.operands]) hk) (ee (by simp [Op.operands]) hx) hq)
    · cases hp
  · split at hp
    · rename_i ha hk hx
      obtain ⟨hq, rfl⟩ := uu hp
      exact UOk.next (effMapUpdate_ok hi (ee (by simp [Op.operands]) ha) (ee (by simp [Op.operands]) hk) (ee (by simp [Op.operands]) hx) hq)
    · cases hp
  · split at hp
    · rename_i ha
      exact EOk.next (effNext_ok hi (ee (by simp [Op.operands]) ha) hp)
    · cases hp
  · rename_i args ts
    split at hp
    · rename_i s x hargs
      obtain rfl : args = #[s, x] := by apply Array.ext'; simpa using hargs
      split at hp
      · rename_i ha hx
        have e : (#[s, x] : Array Operand).map σ = #[σ s, σ x] := by simp
        have := EOk.next (effAppend_ok (ty := type) hi (ee (by simp [Op.operands, Call.operands]) ha) (ee (by simp [Op.operands, Call.operands]) hx) hp)
        rw [← e] at this; exact this
      · cases hp
    · cases hp
  · rename_i args ts
    split at hp
    · rename_i d s t ts' hargs hts
      obtain rfl : args = #[d, s] := by apply Array.ext'; simpa using hargs
      have ht : ts[0]? = some t := by rw [← Array.getElem?_toList, hts]; rfl
      split at hp
      · rename_i ha hx
        have e : (#[d, s] : Array Operand).map σ = #[σ d, σ s] := by simp
        have := EOk.next (effCopy_ok (ty := type) hi ht (ee (by simp [Op.operands, Call.operands]) ha) (ee (by simp [Op.operands, Call.operands]) hx) hp)
        rw [← e] at this; exact this
      · cases hp
    · cases hp
  · rename_i args ts
    split at hp
    · rename_i x t ts' hargs hts
      obtain rfl : args = #[x] := by apply Array.ext'; simpa using hargs
      have ht : ts[0]? = some t := by rw [← Array.getElem?_toList, hts]; rfl
      split at hp
      · rename_i hx
        obtain ⟨hq, rfl⟩ := uu hp
        have e : (#[x] : Array Operand).map σ = #[σ x] := by simp
        obtain ⟨R', w', h1, h3, h4⟩ := effClear_ok (P := P) (ty := type) hi ht (ee (by simp [Op.operands, Call.operands]) hx) hq
        rw [← e] at h1
        refine ⟨R', .value (.tuple #[]), .tuple #[], w', ?_, .inl rfl, VRel.undef _ _, h3, h4⟩
        show Sem.run P (do pure (Next.value (← Builtin.clear_ ts type ((#[x] : Array Operand).map σ)))) w = _
        simp only [Sem.run_bind, h1, Result.andThen_ok, Sem.run_pure]
      · cases hp
    · cases hp
  · rename_i args ts
    split at hp
    · rename_i d s t ts' hargs hts
      obtain rfl : args = #[d, s] := by apply Array.ext'; simpa using hargs
      have ht : ts[0]? = some t := by rw [← Array.getElem?_toList, hts]; rfl
      split at hp
      · rename_i ha hx
        obtain ⟨hq, rfl⟩ := uu hp
        have e : (#[d, s] : Array Operand).map σ = #[σ d, σ s] := by simp
        obtain ⟨R', w', h1, h3, h4⟩ := effDelete_ok (P := P) (ty := type) hi ht (ee (by simp [Op.operands, Call.operands]) ha) (ee (by simp [Op.operands, Call.operands]) hx) hq
        rw [← e] at h1
        refine ⟨R', .value (.tuple #[]), .tuple #[], w', ?_, .inl rfl, VRel.undef _ _, h3, h4⟩
        show Sem.run P (do pure (Next.value (← Builtin.delete_ ts type ((#[d, s] : Array Operand).map σ)))) w = _
        simp only [Sem.run_bind, h1, Result.andThen_ok, Sem.run_pure]
      · cases hp
    · cases hp
  · rename_i args ts
    split at hp
    · rename_i d s hargs
      obtain rfl : args = #[d, s] := by apply Array.ext'; simpa using hargs
      split at hp
      · rename_i ha hx
        have e : (#[d, s] : Array Operand).map σ = #[σ d, σ s] := by simp
        have := EOk.next (effString_ok (ty := type) hi (ee (by simp [Op.operands, Call.operands]) ha) (ee (by simp [Op.operands, Call.operands]) hx) hp)
        rw [← e] at this; exact this
      · cases hp
    · cases hp
  · cases hp
end
end Go.Sx
