/-
  The abstract executor, part I: maps looked into, and the quiet operations as one function.
  No condition: definitions and lemmas.
-/
import Derived.Test.YtioclaoooghllaaGreatDoorSxH
namespace Go.Sx
open Go.Instr

/-! ### Keys -/
/-- Are two keys one? (Numbers, strings and bools that are reckoned out.) -/
def keyEq : AVal → AVal → Option Bool
  | .int k (.lit a), .int k' (.lit b) => if k = k' then some (eqI a b) else none
  | .str (.lit a), .str (.lit b) => some (eqL a b)
  | _, _ => none
def kdA (P : Program) (t : TypeId) : Option TypeDesc := match P.underlying t with
  | some (.int k) => some (.int k)
  | some .string => some .string
  | _ => none
def findA (k : AVal) : List (AVal × AVal) → Nat → Option (Option (Nat × AVal))
  | [], _ => some none
  | e :: es, i => match keyEq k e.1 with
    | some true => some (some (i, e.2))
    | some false => findA k es (i + 1)
    | none => none

section
variable {P : Program} {ρ : Env} {R : Rl} {w : World} {h : Tr ABlk}

/-- The key's own kind: what the map's key type asks of it. -/
def keyFits (d : TypeDesc) : AVal → Bool
  | .int k _ => (match d with | .int _ => (fun _ => true) k | _ => false)
  | .str _ => (match d with | .string => true | _ => false)
  | _ => false

theorem keyEq_now {d : TypeDesc} {a b : AVal} {u v : Value} {r : Bool} (hf : keyFits d a = true) (ha : VRel ρ R a u) (hb : VRel ρ R b v) (hk : keyEq a b = some r) : sameNow d u v = some r ∧ (r = true ↔ u = v) := by
  unfold keyEq at hk
  split at hk
  · rename_i k x k' y
    split at hk
    · rename_i e
      subst e
      cases hk
      obtain rfl := VRel_int ha
      obtain rfl := VRel_int hb
      have e : eqI x y = (x == y) := by rw [Bool.eq_iff_iff, eqI_iff]; simp
      refine ⟨?_, fun h => by rw [(eqI_iff x y).1 h], fun h => (eqI_iff x y).2 (by simpa [IE.den] using h)⟩
      cases d <;> simp [keyFits] at hf
      simp [sameNow, IE.den, e]
    · cases hk
  · rename_i x y
    cases hk
    obtain rfl := VRel_str ha
    obtain rfl := VRel_str hb
    have e : eqL x y = ((SE.lit x).dens ρ == (SE.lit y).dens ρ) := by
      rw [beq_toListBytes, dens_toList, dens_toList, eqL_iff]; simp [SE.den]
    refine ⟨?_, fun h => by rw [eqL_iff] at h; rw [eq_of_beq h], fun h => ?_⟩
    rotate_left
    · have h1 : x = y := by have := congrArg (fun b : ByteArray => b.data.toList) (Value.string.inj h); simpa [SE.dens, SE.den] using this
      rw [eqL_iff, h1]; exact beq_self_eq_true y
    cases d <;> simp [keyFits] at hf
    simp [sameNow, e]
  · cases hk

theorem findA_ok {d : TypeDesc} {k : AVal} {u : Value} (hf : keyFits d k = true) (hk : VRel ρ R k u) : ∀ {es : List (AVal × AVal)} {ms : List MapEntry} {i : Nat} {r : Option (Nat × AVal)}, ERel ρ R es ms → findA k es i = some r →
    ∃ r', findNow d u ms i = some r' ∧ (match r with
      | none => r' = none ∧ ∀ e ∈ ms, e.key ≠ u
      | some (j, v) => i ≤ j ∧ ∃ v' e, r' = some (j, v') ∧ VRel ρ R v v' ∧ ms[j - i]? = some e ∧ e.key = u ∧ e.val = v')
  | [], ms, i, r, he, hp => by
    cases hp
    simp only [ERel] at he; subst he
    exact ⟨none, rfl, rfl, by simp⟩
  | e :: es, ms, i, r, he, hp => by
    obtain ⟨m, ms', rfl, h1, h2, h3⟩ := he
    unfold findA at hp
    split at hp
    · rename_i hq
      cases hp
      obtain ⟨hn, he⟩ := keyEq_now hf hk h1 hq
      exact ⟨some (i, m.val), by simp [findNow, hn], Nat.le_refl _, m.val, m, rfl, h2, by simp, (he.1 rfl).symm, rfl⟩
    · rename_i hq
      obtain ⟨hn, hne⟩ := keyEq_now hf hk h1 hq
      obtain ⟨r', g1, g2⟩ := findA_ok hf hk h3 hp
      refine ⟨r', by simp [findNow, hn, g1], ?_⟩
      cases r with
      | none =>
        refine ⟨g2.1, fun e' h' => ?_⟩
        rcases List.mem_cons.1 h' with rfl | h'
        · exact fun q => by have := hne.2 q.symm; cases this
        · exact g2.2 e' h'
      | some x =>
        obtain ⟨j, v⟩ := x
        obtain ⟨hle, v', e', q1, q2, q3, q4, q5⟩ := g2
        refine ⟨by omega, v', e', q1, q2, ?_, q4, q5⟩
        have : j - i = (j - (i + 1)) + 1 := by omega
        rw [this]; exact q3
    · cases hp

/-- The key type's kind, and that the key is of it. -/
def keyD (P : Program) (t : TypeId) (k : AVal) : Option TypeDesc := match kdA P t with
  | some d => match keyFits d k with | true => some d | false => none
  | none => none

theorem keyD_ok {t : TypeId} {k : AVal} {u : Value} {d : TypeDesc} (hk : VRel ρ R k u) (hp : keyD P t k = some d) :
    keyFits d k = true ∧ P.underlying t = some d ∧ ∀ empty, (checkKey empty 10000 t u).run P w = .ok () w := by
  unfold keyD at hp
  split at hp
  · rename_i d0 hd
    split at hp
    · rename_i hf
      cases hp
      have hu : P.underlying t = some d := by
        unfold kdA at hd
        split at hd
        · rename_i e; cases hd; exact e
        · rename_i e; cases hd; exact e
        · cases hd
      refine ⟨hf, hu, fun empty => ?_⟩
      unfold checkKey
      simp only [Sem.run_bind, run_und w hu, Result.andThen_ok]
      cases k <;> simp [keyFits] at hf
      · obtain rfl := VRel_int hk
        cases d <;> simp at hf
        rfl
      · obtain rfl := VRel_str hk
        cases d <;> simp at hf
        rfl
    · cases hp
  · cases hp

def lkRes (ok : Bool) (v : AVal) (b : Bool) : AVal := match ok with | true => .tuple [v, .bool (.lit b)] | false => v
def pkLookup (P : Program) (h : Tr ABlk) (t : TypeId) (m k : AVal) (ok : Bool) : Option AVal :=
  match P.underlying t with
  | some (.map kt et) =>
    match keyD P kt k with
    | none => none
    | some _ =>
      let res : Option (AVal × Bool) := match m with
        | .nilMap => match zeroA P et with | some z => some (z, false) | none => none
        | .map id => match h.get id with
          | some (.map es) => match findA k es 0 with
            | some none => match zeroA P et with | some z => some (z, false) | none => none
            | some (some (_, v)) => some (v, true)
            | none => none
          | _ => none
        | _ => none
      match res with
      | some (v, b) => some (lkRes ok v b)
      | none => none
  | _ => none

theorem pkLookup_ok {t : TypeId} {m k y : AVal} {u v : Value} {ok : Bool} (hh : HeapOk ρ R h w) (hm : VRel ρ R m u) (hk : VRel ρ R k v) (hp : pkLookup P h t m k ok = some y) : VOk P ρ R w (Instr.lookup t u v ok) (.val y) := by
  unfold pkLookup at hp
  split at hp
  · rename_i kt et hd
    split at hp
    · cases hp
    · rename_i d hkd
      obtain ⟨hf, hu, hck⟩ := keyD_ok (w := w) hk hkd
      have fin : ∀ (es : Array MapEntry) (r : AVal) (b : Bool), ((u = .map none ∧ es = #[]) ∨ ∃ bl clk, u = .map (some bl) ∧ w.heap[bl]? = some (.map es clk)) →
          (∃ q r', findNow d v es.toList 0 = some q ∧ VRel ρ R r r' ∧ ((q = none ∧ b = false ∧ (zeroValue et).run P w = .ok r' w) ∨ ∃ j, q = some (j, r') ∧ b = true)) →
          some (lkRes ok r b) = some y → VOk P ρ R w (Instr.lookup t u v ok) (.val y) := by
        intro es r b hes hfind hy
        obtain ⟨q, r', hq, hr, hcase⟩ := hfind
        have hfk : (findKey kt v es.toList).run P w = .ok q w := by simp [findKey, run_und w hu, hq]
        have hrun : (Instr.lookup t u v ok).run P w = .ok (if ok then Value.tuple #[r', .bool b] else r') w := by
          rcases hes with ⟨rfl, rfl⟩ | ⟨bl, clk, rfl, hbl⟩
          · simp only [Instr.lookup, Sem.run_bind, run_und w hd, Result.andThen_ok, Sem.run_pure, hck, hfk]
            rcases hcase with ⟨rfl, rfl, hz⟩ | ⟨j, rfl, rfl⟩
            · simp [hz]
            · simp
          · have hgo : (getObj bl).run P w = .ok (.map es clk) w := by simp [getObj, Sem.run, hbl]
            simp only [Instr.lookup, Sem.run_bind, run_und w hd, Result.andThen_ok, Sem.run_pure, hck, hfk, hgo]
            rcases hcase with ⟨rfl, rfl, hz⟩ | ⟨j, rfl, rfl⟩
            · simp [hz]
            · simp
        cases ok with
        | true =>
          cases hy
          exact ⟨_, hrun, #[r', .bool b], by simp, VRels.cons hr (VRels.cons rfl .nil)⟩
        | false =>
          cases hy
          exact ⟨_, hrun, by simpa [lkRes] using hr⟩
      simp only at hp
      split at hp
      · rename_i r b hres
        split at hres
        · split at hres
          · rename_i z hz
            cases hres
            cases hm
            obtain ⟨z', z1, z2⟩ := run_zero w ρ R hz
            exact fin #[] _ _ (.inl ⟨rfl, rfl⟩) ⟨none, z', rfl, z2, .inl ⟨rfl, rfl, z1⟩⟩ hp
          · cases hres
        · rename_i id
          obtain ⟨b', hb, rfl⟩ := hm
          split at hres
          · rename_i es hes
            obtain ⟨o, ho, a, clk, rfl, her, _⟩ := hh id _ b' hes hb
            split at hres
            · rename_i hfa
              obtain ⟨r', g1, g2⟩ := findA_ok hf hk her hfa
              simp only at g2
              split at hres
              · rename_i z hz
                cases hres
                obtain ⟨z', z1, z2⟩ := run_zero w ρ R hz
                exact fin a _ _ (.inr ⟨b', clk, rfl, ho⟩) ⟨none, z', by rw [g1, g2.1], z2, .inl ⟨rfl, rfl, z1⟩⟩ hp
              · cases hres
            · rename_i j x hfa
              cases hres
              obtain ⟨r', g1, g2⟩ := findA_ok hf hk her hfa
              simp only at g2
              obtain ⟨_, v', e, q1, q2, _⟩ := g2
              exact fin a _ _ (.inr ⟨b', clk, rfl, ho⟩) ⟨some (j, v'), v', by rw [g1, q1], q2, .inr ⟨j, rfl, rfl⟩⟩ hp
            · cases hres
          · cases hres
        · cases hres
      · cases hp
  · cases hp
end
end Go.Sx
