/-
  The abstract executor, part E: equality and the other operators.
  No condition: definitions and lemmas.
-/
import Derived.Test.YtioclaoooghllaaGreatDoorSxD
import Derived.Laws.StructEq
namespace Go.Sx
open Go.Instr

/-! ### Equality -/
def eqFldA (P : Program) (rec : TypeId → AVal → AVal → Option BE) (xs ys : List AVal) : List Field → Option BE
  | [] => some (.lit true)
  | f :: fs =>
    if f.name = "_" then eqFldA P rec xs ys fs else
    match partA P f.type xs f.offset, partA P f.type ys f.offset with
    | some a, some b => match rec f.type a b, eqFldA P rec xs ys fs with
      | some e, some r => some (mkAnd e r)
      | _, _ => none
    | _, _ => none
def eqArrA (P : Program) (rec : TypeId → AVal → AVal → Option BE) (elem n : Nat) (xs ys : List AVal) : Nat → Nat → Option BE
  | 0, _ => some (.lit true)
  | k + 1, i =>
    match partA P elem xs (i * n), partA P elem ys (i * n) with
    | some a, some b => match rec elem a b, eqArrA P rec elem n xs ys k (i + 1) with
      | some e, some r => some (mkAnd e r)
      | _, _ => none
    | _, _ => none
def eqA (P : Program) : Nat → TypeId → AVal → AVal → Option BE
  | 0, _, _, _ => none
  | d + 1, t, x, y =>
    match P.underlying t with
    | some .bool => match x, y with | .bool a, .bool b => some (mkPickB a b (mkNot b)) | _, _ => none
    | some (.int _) => match x, y with | .int k a, .int k' b => if k = k' then some (mkCmp .eql a b) else none | _, _ => none
    | some .string => match x, y with | .str a, .str b => some (mkScmp .eql a b) | _, _ => none
    | some (.pointer elem) => match x, y with
      | .nilPtr, .nilPtr => some (.lit true)
      | .nilPtr, .ptr _ _ => some (.lit false)
      | .ptr _ _, .nilPtr => some (.lit false)
      | .ptr i o, .ptr i' o' => match Nat.beq i i', szA P elem with | true, some (_ + 1) => some (.lit (Nat.beq o o')) | _, _ => none
      | _, _ => none
    | some (.interface _) => match x, y with
      | .nilIface, .nilIface => some (.lit true)
      | .nilIface, .iface _ _ => some (.lit false)
      | .iface _ _, .nilIface => some (.lit false)
      | .iface tx vx, .iface ty vy => match Nat.beq tx ty with
        | false => some (.lit false)
        | true => match P.info? tx with | some i => (match i.comparable with | true => eqA P d tx vx vy | false => none) | none => none
      | _, _ => none
    | some (.slice _) => match x, y with
      | .nilSlice, .nilSlice => some (.lit true)
      | .nilSlice, .slice _ _ _ _ => some (.lit false)
      | .slice _ _ _ _, .nilSlice => some (.lit false)
      | .nilSlice, .slice0 => some (.lit false)
      | .slice0, .nilSlice => some (.lit false)
      | _, _ => none
    | some (.map _ _) => match x, y with
      | .nilMap, .nilMap => some (.lit true)
      | .nilMap, .map _ => some (.lit false)
      | .map _, .nilMap => some (.lit false)
      | _, _ => none
    | some (.func _ _ _) => match x, y with
      | .nilFunc, .nilFunc => some (.lit true)
      | .nilFunc, .func _ _ _ => some (.lit false)
      | .func _ _ _, .nilFunc => some (.lit false)
      | _, _ => none
    | some (.struct fields) => match x, y with
      | .agg xs, .agg ys => match P.stoodInHeld t with
        | true => none
        | false => eqFldA P (eqA P d) xs ys fields.toList
      | _, _ => none
    | some (.array len elem) => match x, y with
      | .agg xs, .agg ys => match szA P elem with | some n => eqArrA P (eqA P d) elem n xs ys len 0 | none => none
      | _, _ => none
    | _ => none

section
variable {P : Program} {ρ : Env} {R : Rl} {h : Tr ABlk}

/-- What a recursive call of the equality does. -/
def EqOk (P : Program) (ρ : Env) (R : Rl) (d : Nat) (rec : TypeId → AVal → AVal → Option BE) : Prop :=
  ∀ t x y e u v w, rec t x y = some e → VRel ρ R x u → VRel ρ R y v → (Op.equalIn d t u v).run P w = .ok (e.den ρ) w

theorem eqFldA_ok {d : Nat} {rec : TypeId → AVal → AVal → Option BE} (hr : EqOk P ρ R d rec) {xs ys : List AVal} {us vs : Array Value} (hx : VRels ρ R xs us.toList) (hy : VRels ρ R ys vs.toList) {w : World} :
    ∀ {fs : List Field} {e : BE}, eqFldA P rec xs ys fs = some e → (Op.eqFields d us vs fs).run P w = .ok (e.den ρ) w
  | [], e, he => by cases he; rfl
  | f :: fs, e, he => by
    unfold eqFldA at he
    split at he
    · rename_i hn
      simp only [Op.eqFields, hn, ne_eq, not_true, if_false]
      exact eqFldA_ok hr hx hy he
    · rename_i hn
      split at he
      · rename_i a b ha hb
        split at he
        · rename_i e1 e2 h1 h2
          cases he
          obtain ⟨a', ra, va⟩ := run_part (P := P) w hx ha
          obtain ⟨b', rb, vb⟩ := run_part (P := P) w hy hb
          have ih := eqFldA_ok (w := w) hr hx hy h2
          have re := hr _ _ _ _ _ _ w h1 va vb
          simp only [Op.eqFields, ne_eq, hn, not_false_eq_true, if_true, Sem.run_bind, ra, rb, re, Result.andThen_ok]
          rw [den_mkAnd]
          cases hd : e1.den ρ
          · simp
          · simp [ih]
        · cases he
      · cases he

theorem eqArr_run {d elem n : Nat} {us vs : Array Value} {w : World} {f : Nat → Bool} : ∀ (k i : Nat), (∀ j, i ≤ j → j < i + k → (do let a ← part elem us (j * n); let b ← part elem vs (j * n); Op.equalIn d elem a b).run P w = .ok (f j) w) →
    (forIn (List.range' i k) ((none, ()) : Option Bool × Unit) (fun j (_ : Option Bool × Unit) => do
      let a ← part elem us (j * n); let b ← part elem vs (j * n)
      let x ← Op.equalIn d elem a b
      if (!x) = true then pure (ForInStep.done (some false, ())) else
        pure (ForInStep.yield (none, ()))) : Sem (Option Bool × Unit)).run P w =
      .ok (if ((List.range' i k).all f) then none else some false, ()) w
  | 0, i, _ => by simp
  | k + 1, i, hf => by
    have h0 := hf i (Nat.le_refl _) (by omega)
    have ih := eqArr_run k (i + 1) (fun j h1 h2 => hf j (by omega) (by omega))
    rw [List.range'_succ]
    simp only [List.forIn_cons, Sem.run_bind] at ih h0 ⊢
    cases ra : (part elem us (i * n)).run P w with
    | halt x w1 => rw [ra] at h0; simp at h0
    | ok a w1 =>
      rw [ra] at h0
      simp only [Result.andThen_ok] at h0 ⊢
      cases rb : (part elem vs (i * n)).run P w1 with
      | halt x w2 => rw [rb] at h0; simp at h0
      | ok b w2 =>
        rw [rb] at h0
        simp only [Result.andThen_ok] at h0 ⊢
        rw [h0]
        simp only [Result.andThen_ok]
        cases hfi : f i
        · simp [hfi]
        · simp only [Bool.not_true, Bool.false_eq_true, if_false, Sem.run_pure, Result.andThen_ok, List.all_cons, hfi, Bool.true_and]
          exact ih

theorem eqArrA_all {rec : TypeId → AVal → AVal → Option BE} {elem n : Nat} {xs ys : List AVal} : ∀ {k i : Nat} {e : BE}, eqArrA P rec elem n xs ys k i = some e →
    ∃ f : Nat → BE, (∀ j, i ≤ j → j < i + k → ∃ a b, partA P elem xs (j * n) = some a ∧ partA P elem ys (j * n) = some b ∧ rec elem a b = some (f j)) ∧ e.den ρ = (List.range' i k).all fun j => (f j).den ρ
  | 0, i, e, he => by cases he; exact ⟨fun _ => .lit true, fun j h1 h2 => by omega, by simp [BE.den]⟩
  | k + 1, i, e, he => by
    unfold eqArrA at he
    split at he
    · rename_i a b ha hb
      split at he
      · rename_i e1 e2 h1 h2
        cases he
        obtain ⟨f, hf, hall⟩ := eqArrA_all h2
        refine ⟨fun j => if j = i then e1 else f j, fun j hj1 hj2 => ?_, ?_⟩
        · by_cases e : j = i
          · subst e; exact ⟨a, b, ha, hb, by simpa using h1⟩
          · obtain ⟨a', b', p1, p2, p3⟩ := hf j (by omega) (by omega)
            exact ⟨a', b', p1, p2, by simpa [e] using p3⟩
        · rw [den_mkAnd, hall, List.range'_succ]
          simp only [List.all_cons, if_true]
          congr 1
          rw [Bool.eq_iff_iff]
          simp only [List.all_eq_true]
          constructor <;> intro hq j hj <;> have := hq j hj <;> simp only [List.mem_range'_1] at hj
          · rw [if_neg (by omega)]; exact this
          · rw [if_neg (by omega)] at this; exact this
      · cases he
    · cases he

set_option maxHeartbeats 4000000 in
theorem eqA_ok : ∀ (d : Nat) {D : Nat}, d ≤ D → EqOk P ρ R D (eqA P d)
  | 0, _, _ => fun _ _ _ _ _ _ _ h => by simp [eqA] at h
  | d + 1, 0, hD => by omega
  | d + 1, D + 1, hD => by
    intro t x y e u v w he hx hy
    have ih := eqA_ok d (D := D) (by omega)
    unfold eqA at he
    split at he
    · rename_i hd
      split at he
      · cases he; cases hx; cases hy
        simp [Op.equalIn, run_und w hd]
        rename_i a b
        cases a.den ρ <;> simp
      · cases he
    · rename_i hd
      split at he
      · split at he
        · rename_i hk
          cases he; cases hx; cases hy; subst hk
          simp [Op.equalIn, run_und w hd, cmpFn]
        · cases he
      · cases he
    · rename_i hd
      split at he
      · cases he; cases hx; cases hy
        simp only [Op.equalIn, Sem.run_bind, run_und w hd, Result.andThen_ok, Sem.run_pure, den_mkScmp, scmpFn, eqL_iff]
        rename_i a b
        congr 1
        rw [beq_toListBytes, ByteArray.toList_eq, ByteArray.toList_eq]
        simp [SE.dens]
      · cases he
    · rename_i elem hd
      split at he
      · cases he; cases hx; cases hy; simp [Op.equalIn, run_und w hd, BE.den]
      · cases he; cases hx; obtain ⟨b, hb, rfl⟩ := hy; simp [Op.equalIn, run_und w hd, BE.den]
      · cases he; cases hy; obtain ⟨b, hb, rfl⟩ := hx; simp [Op.equalIn, run_und w hd, BE.den]
      · rename_i i o i' o'
        split at he
        · rename_i hb hs
          cases he
          obtain rfl := Nat.eq_of_beq_eq_true hb
          obtain ⟨b, hb, rfl⟩ := hx
          obtain ⟨b', hb', rfl⟩ := hy
          rw [hb] at hb'; cases hb'
          simp [Op.equalIn, run_und w hd, BE.den, run_size w hs, sameAddr]
          by_cases e : o = o'
          · subst e; simp
          · rw [Bool.eq_false_iff.2 fun x => e (Nat.eq_of_beq_eq_true x)]
            simp [e]
        · cases he
      · cases he
    · rename_i ms hd
      split at he
      · cases he; cases hx; cases hy; simp [Op.equalIn, run_und w hd, BE.den]
      · cases he; cases hx; obtain ⟨b, rfl, hb⟩ := hy; simp [Op.equalIn, run_und w hd, BE.den]
      · cases he; cases hy; obtain ⟨b, rfl, hb⟩ := hx; simp [Op.equalIn, run_und w hd, BE.den]
      · rename_i tx vx ty vy
        obtain ⟨a, rfl, ha⟩ := hx
        obtain ⟨b, rfl, hb⟩ := hy
        split at he
        · rename_i hne
          cases he
          have : tx ≠ ty := fun e => by subst e; simp at hne
          simp [Op.equalIn, run_und w hd, BE.den, this]
        · rename_i heq
          obtain rfl := Nat.eq_of_beq_eq_true heq
          split at he
          · rename_i i hi
            split at he
            · rename_i hc
              simp [Op.equalIn, run_und w hd, run_info w hi, hc]
              exact ih _ _ _ _ _ _ _ he ha hb
            · cases he
          · cases he
      · cases he
    · rename_i hd
      split at he
      · cases he; cases hx; cases hy; simp [Op.equalIn, run_und w hd, BE.den]
      · cases he; cases hx; obtain ⟨b, hb, rfl⟩ := hy; simp [Op.equalIn, run_und w hd, BE.den]
      · cases he; cases hy; obtain ⟨b, hb, rfl⟩ := hx; simp [Op.equalIn, run_und w hd, BE.den]
      · cases he; cases hx; obtain ⟨b, c, rfl⟩ := hy; simp [Op.equalIn, run_und w hd, BE.den]
      · cases he; cases hy; obtain ⟨b, c, rfl⟩ := hx; simp [Op.equalIn, run_und w hd, BE.den]
      · cases he
    · rename_i hd
      split at he
      · cases he; cases hx; cases hy; simp [Op.equalIn, run_und w hd, BE.den]
      · cases he; cases hx; obtain ⟨b, hb, rfl⟩ := hy; simp [Op.equalIn, run_und w hd, BE.den]
      · cases he; cases hy; obtain ⟨b, hb, rfl⟩ := hx; simp [Op.equalIn, run_und w hd, BE.den]
      · cases he
    · rename_i hd
      split at he
      · cases he; cases hx; cases hy; simp [Op.equalIn, run_und w hd, BE.den]
      · cases he; cases hx; obtain ⟨g, fs, cs, hg, rfl, _, _⟩ := hy; simp [Op.equalIn, run_und w hd, BE.den]
      · cases he; cases hy; obtain ⟨g, fs, cs, hg, rfl, _, _⟩ := hx; simp [Op.equalIn, run_und w hd, BE.den]
      · cases he
    · rename_i fields hd
      split at he
      · rename_i xs ys
        split at he
        · cases he
        · rename_i hst
          obtain ⟨us, rfl, hu⟩ := hx
          obtain ⟨vs, rfl, hv⟩ := hy
          have hf : P.fieldsOf t = fields := by simp [Program.fieldsOf, hd]
          rw [run_equalIn_struct w D t us vs (by rw [hf]; exact hd) hst, hf]
          exact eqFldA_ok ih hu hv he
      · cases he
    · rename_i len elem hd
      split at he
      · rename_i xs ys
        split at he
        · rename_i n hn
          obtain ⟨us, rfl, hu⟩ := hx
          obtain ⟨vs, rfl, hv⟩ := hy
          obtain ⟨f, hf, hall⟩ := eqArrA_all (ρ := ρ) he
          have := eqArr_run (P := P) (d := D) (elem := elem) (n := n) (us := us) (vs := vs) (w := w) (f := fun j => (f j).den ρ) len 0 (fun j h1 h2 => by
            obtain ⟨a, b, p1, p2, p3⟩ := hf j h1 h2
            obtain ⟨a', ra, va⟩ := run_part (P := P) w hu p1
            obtain ⟨b', rb, vb⟩ := run_part (P := P) w hv p2
            simp [ra, rb, ih _ _ _ _ _ _ _ p3 va vb])
          simp only [Op.equalIn, Sem.run_bind, run_und w hd, Result.andThen_ok, run_size w hn]
          rw [Std.Legacy.Range.forIn_eq_forIn_range']
          simp only [Std.Legacy.Range.size, Nat.sub_zero, Nat.add_sub_cancel, Nat.div_one]
          rw [this]
          rw [hall]
          simp only [Result.andThen_ok]
          cases hq : ((List.range' 0 len).all fun j => BE.den ρ (f j)) <;> simp
        · cases he
      · cases he
    · cases he
end
end Go.Sx
