/-
  The abstract executor, part R: a region whose order is open.
  No condition: definitions and lemmas.
-/
import Derived.Test.YtioclaoooghllaaGreatDoorSxU
namespace Go.Sx
open Go.Instr

/-! ### What stands ahead of what -/
/-- Bit i of number j: operation i stands ahead of operation j. -/
def ancB (anc : List Nat) (i j : Nat) : Bool := Nat.testBit ((anc[j]?).getD 0) i

theorem foldl_bits (look : Nat → Nat) (i : Nat) : ∀ (l : List Edge) (s : Nat), (l.foldl (fun s e => if Region.binds .any e then s ||| 2 ^ e.on ||| look e.on else s) s).testBit i = true →
    s.testBit i = true ∨ ∃ e ∈ l, Region.binds .any e = true ∧ (e.on = i ∨ (look e.on).testBit i = true)
  | [], s, h => .inl h
  | e :: l, s, h => by
    simp only [List.foldl_cons] at h
    rcases foldl_bits look i l _ h with h1 | ⟨e', he', hb, hx⟩
    · split at h1
      · rename_i hb
        simp only [Nat.testBit_or, Bool.or_eq_true] at h1
        rcases h1 with (h1 | h1) | h1
        · exact .inl h1
        · refine .inr ⟨e, by simp, hb, .inl ?_⟩
          rw [Nat.testBit_two_pow] at h1
          simpa using h1
        · exact .inr ⟨e, by simp, hb, .inr h1⟩
      · exact .inl h1
    · exact .inr ⟨e', by simp [he'], hb, hx⟩

theorem beforeL_spec : ∀ (l : List Oper) (j : Nat) (acc done : List Nat) (pre : List Oper), acc = done.reverse → done.length = j → pre.length = j →
    (∀ x i, ancB done i x = true → ∃ o, pre[x]? = some o ∧ ∃ e ∈ o.after.toList, Region.binds .any e = true ∧ (e.on = i ∨ (e.on < x ∧ ancB done i e.on = true))) →
    ∀ x i, ancB (CheckFast.beforeL l j acc) i x = true → ∃ o, (pre ++ l)[x]? = some o ∧ ∃ e ∈ o.after.toList, Region.binds .any e = true ∧ (e.on = i ∨ (e.on < x ∧ ancB (CheckFast.beforeL l j acc) i e.on = true))
  | [], j, acc, done, pre, ha, hd, hp, h => by
    subst ha
    simpa [CheckFast.beforeL] using h
  | o :: l, j, acc, done, pre, ha, hd, hp, h => by
    rw [CheckFast.beforeL, CheckFast.force_eq]
    let look : Nat → Nat := fun i => if i < j then acc.getD (j - 1 - i) 0 else 0
    have hlook : ∀ i, look i = (done[i]?).getD 0 := by
      intro i
      simp only [look]
      split
      · rename_i hi
        rw [ha, List.getD_eq_getElem?_getD, List.getElem?_reverse (by omega)]
        congr 2; omega
      · rename_i hi
        rw [List.getElem?_eq_none (by omega)]; rfl
    have key := beforeL_spec l (j + 1) (CheckFast.one look o :: acc) (done ++ [CheckFast.one look o]) (pre ++ [o]) (by simp [ha]) (by simp [hd]) (by simp [hp]) (by
      intro x i hx
      have hold : ∀ y, y < j → ancB (done ++ [CheckFast.one look o]) i y = ancB done i y := by
        intro y hy
        unfold ancB
        rw [List.getElem?_append_left (by omega)]
      by_cases hxj : x < j
      · rw [hold x hxj] at hx
        obtain ⟨o', ho', e, he, hb, hx'⟩ := h x i hx
        refine ⟨o', ?_, e, he, hb, ?_⟩
        · rw [List.getElem?_append_left (by omega)]; exact ho'
        · rcases hx' with h1 | ⟨h1, h2⟩
          · exact .inl h1
          · exact .inr ⟨h1, by rw [hold _ (by omega)]; exact h2⟩
      · by_cases hxe : x = j
        · subst hxe
          have hv : ancB (done ++ [CheckFast.one look o]) i x = (CheckFast.one look o).testBit i := by
            unfold ancB
            rw [List.getElem?_append_right (by omega), hd]; simp
          rw [hv] at hx
          unfold CheckFast.one at hx
          rw [← Array.foldl_toList] at hx
          rcases foldl_bits look i _ _ hx with h0 | ⟨e, he, hb, hx'⟩
          · simp at h0
          · refine ⟨o, ?_, e, he, hb, ?_⟩
            · rw [List.getElem?_append_right (by omega), hp]; simp
            · rcases hx' with h1 | h1
              · exact .inl h1
              · have hlt : e.on < x := by
                  rcases Nat.lt_or_ge e.on x with h2 | h2
                  · exact h2
                  · simp only [look] at h1
                    rw [if_neg (by omega)] at h1; simp at h1
                refine .inr ⟨hlt, ?_⟩
                rw [hold _ hlt]
                unfold ancB
                rw [← hlook]; exact h1
        · unfold ancB at hx
          rw [List.getElem?_eq_none (by simp; omega)] at hx
          simp at hx)
    intro x i hx
    obtain ⟨o', ho', rest⟩ := key x i hx
    exact ⟨o', by simpa using ho', rest⟩

theorem anc_spec (ops : Array Oper) (x i : Nat) (h : ancB (CheckFast.beforeF ops).toList i x = true) :
    ∃ o, ops[x]? = some o ∧ ∃ e ∈ o.after.toList, Region.binds .any e = true ∧ (e.on = i ∨ (e.on < x ∧ ancB (CheckFast.beforeF ops).toList i e.on = true)) := by
  have := beforeL_spec ops.toList 0 [] [] [] rfl rfl rfl (by intro x i hx; simp [ancB] at hx) x i (by simpa [CheckFast.beforeF] using h)
  simpa [CheckFast.beforeF] using this

/-- What has been listed is listed with all that stands ahead of it. -/
def DownC (ops : Array Oper) (L : Array Bool) : Prop := ∀ j o e, L.getD j true = true → ops[j]? = some o → e ∈ o.after.toList → Region.binds .any e = true → L.getD e.on true = true

theorem downC_anc {ops : Array Oper} {L : Array Bool} (hd : DownC ops L) : ∀ (x i : Nat), L.getD x true = true → ancB (CheckFast.beforeF ops).toList i x = true → L.getD i true = true := by
  intro x
  induction x using Nat.strongRecOn with
  | _ x ih =>
    intro i hx h
    obtain ⟨o, ho, e, he, hb, hc⟩ := anc_spec ops x i h
    have hl := hd x o e hx ho he hb
    rcases hc with rfl | ⟨hlt, h2⟩
    · exact hl
    · exact ih e.on hlt i hl h2

theorem ready_spec {ops : Array Oper} {L : Array Bool} {i : Nat} (h : i ∈ Region.ready .any ops L) :
    ∃ o, ops[i]? = some o ∧ L.getD i true = false ∧ ∀ e ∈ o.after.toList, Region.binds .any e = true → L.getD e.on true = true := by
  unfold Region.ready at h
  simp only [List.mem_filter, List.mem_range, Bool.and_eq_true, Bool.not_eq_true'] at h
  obtain ⟨hi, hf, ha⟩ := h
  have ho : ops[i]? = some ops[i] := Array.getElem?_eq_getElem hi
  refine ⟨ops[i], ho, hf, fun e he hb => ?_⟩
  rw [ho] at ha
  simp only [Option.map_some, Option.getD_some] at ha
  rw [← Array.all_toList] at ha
  have := List.all_eq_true.1 ha e he
  simp only [hb, Bool.not_true, Bool.false_or] at this
  rw [Array.getD_eq_getD_getElem?] at this ⊢
  cases hq : L[e.on]? with
  | none => rw [hq] at this; simp at this
  | some v => rw [hq] at this; simpa using this

theorem ready_anc {ops : Array Oper} {L : Array Bool} {i j : Nat} (h : i ∈ Region.ready .any ops L) (hd : DownC ops L) (ha : ancB (CheckFast.beforeF ops).toList j i = true) : L.getD j true = true := by
  obtain ⟨o, ho, _, hp⟩ := ready_spec h
  obtain ⟨o', ho', e, he, hb, hc⟩ := anc_spec ops i j ha
  rw [ho] at ho'; cases ho'
  have hl := hp e he hb
  rcases hc with rfl | ⟨_, h2⟩
  · exact hl
  · exact downC_anc hd _ _ hl h2

theorem getD_set {L : Array Bool} {i j : Nat} : (L.setIfInBounds i true).getD j true = if j = i then true else L.getD j true := by
  rw [Array.getD_eq_getD_getElem?, Array.getD_eq_getD_getElem?, Array.getElem?_setIfInBounds]
  by_cases e : i = j
  · subst e
    rw [if_pos rfl, if_pos rfl]
    split
    · rfl
    · rfl
  · rw [if_neg e, if_neg (fun x => e x.symm)]

theorem downC_set {ops : Array Oper} {L : Array Bool} {i : Nat} (h : i ∈ Region.ready .any ops L) (hd : DownC ops L) : DownC ops (L.setIfInBounds i true) := by
  intro j o e hj ho he hb
  rw [getD_set] at hj ⊢
  split
  · rfl
  · by_cases e1 : j = i
    · subst e1
      obtain ⟨o', ho', _, hp⟩ := ready_spec h
      rw [ho] at ho'; cases ho'
      exact hp e he hb
    · rw [if_neg e1] at hj
      exact hd j o e hj ho he hb

theorem fwdAll_spec : ∀ {l : List (Nat × Oper)}, fwdAll l = true → ∀ i o, (i, o) ∈ l → ∀ e ∈ o.after.toList, Region.binds .any e = true → e.on < i
  | [], _, _, _, h, _, _, _ => by simp at h
  | (i0, o0) :: l, hf, i, o, h, e, he, hb => by
    unfold fwdAll at hf
    split at hf
    · rename_i hq
      rcases List.mem_cons.1 h with h | h
      · cases h
        have := List.all_eq_true.1 hq e he
        simp only [hb, Bool.not_true, Bool.false_or] at this
        exact blt_true this
      · exact fwdAll_spec hf i o h e he hb
    · cases hf

theorem number_spec : ∀ (l : List Oper) (k i : Nat) (o : Oper), (i, o) ∈ number l k ↔ k ≤ i ∧ l[i - k]? = some o
  | [], k, i, o => by simp [number]
  | q :: l, k, i, o => by
    simp only [number, List.mem_cons, Prod.mk.injEq, number_spec l (k + 1) i o]
    constructor
    · rintro (⟨rfl, rfl⟩ | ⟨h1, h2⟩)
      · exact ⟨Nat.le_refl _, by simp⟩
      · refine ⟨by omega, ?_⟩
        have : i - k = (i - (k + 1)) + 1 := by omega
        rw [this]; simpa using h2
    · rintro ⟨h1, h2⟩
      by_cases e : i = k
      · subst e; simp at h2; exact .inl ⟨rfl, h2.symm⟩
      · refine .inr ⟨by omega, ?_⟩
        have : i - k = (i - (k + 1)) + 1 := by omega
        rw [this] at h2; simpa using h2
theorem number_nodup : ∀ (l : List Oper) (k : Nat), ((number l k).map (·.1)).Nodup
  | [], k => by simp [number]
  | q :: l, k => by
    simp only [number, List.map_cons, List.nodup_cons]
    refine ⟨fun h => ?_, number_nodup l (k + 1)⟩
    obtain ⟨⟨i, o⟩, hm, rfl⟩ := List.mem_map.1 h
    have := ((number_spec l (i + 1) i o).1 hm).1
    omega

/-- Not everything listed: something is ready. -/
theorem ready_some {ops : Array Oper} {L : Array Bool} (hs : L.size = ops.size) (hf : fwdAll (number ops.toList 0) = true) (hr : Region.ready .any ops L = []) : ∀ i, i < ops.size → L.getD i true = true := by
  intro i
  induction i using Nat.strongRecOn with
  | _ i ih =>
    intro hi
    cases hl : L.getD i true with
    | true => rfl
    | false =>
      exfalso
      have : i ∈ Region.ready .any ops L := by
        unfold Region.ready
        simp only [List.mem_filter, List.mem_range, Bool.and_eq_true, Bool.not_eq_true']
        refine ⟨hi, hl, ?_⟩
        have ho : ops[i]? = some ops[i] := Array.getElem?_eq_getElem hi
        rw [ho]
        simp only [Option.map_some, Option.getD_some]
        rw [← Array.all_toList, List.all_eq_true]
        intro e he
        cases hb : Region.binds .any e with
        | false => rfl
        | true =>
          have hlt := fwdAll_spec hf i ops[i] ((number_spec _ _ _ _).2 ⟨Nat.zero_le _, by simp [ho]⟩) e he hb
          have h2 := ih e.on hlt (by omega)
          simp only [Bool.not_true, Bool.false_or]
          rw [Array.getD_eq_getD_getElem?] at h2 ⊢
          have hlt2 : e.on < L.size := by omega
          rw [Array.getElem?_eq_getElem hlt2] at h2 ⊢
          simpa using h2
      rw [hr] at this; simp at this

theorem ownTmps_spec {ops : Array Oper} {anc : List Nat} {all : List (Nat × Oper)} (h : ownTmps ops anc all = true) {i : Nat} {o : Oper} (hi : (i, o) ∈ all) (hq : isEffD o.op = false) {d : Tmp} (hd : o.dst = some d) :
    d ∉ o.looksAt ops ∧ ∀ j q, (j, q) ∈ all → j ≠ i → (q.dst = some d ∨ d ∈ q.looksAt ops) → ancB anc i j = true := by
  unfold ownTmps at h
  have h1 := List.all_eq_true.1 h (i, o) hi
  simp only [hq, hd, Bool.false_or, Bool.and_eq_true, Bool.not_eq_true'] at h1
  obtain ⟨h2, h3⟩ := h1
  refine ⟨fun hm => ?_, fun j q hj hne hmen => ?_⟩
  · rw [List.any_eq_false] at h2
    have := h2 d hm
    simp at this
  · have h4 := List.all_eq_true.1 h3 (j, q) hj
    simp only [Bool.or_eq_true, Bool.not_eq_true'] at h4
    rcases h4 with (h4 | h4) | h4
    · exact (hne (beq_eq h4).symm).elim
    · exfalso
      unfold mentions at h4
      simp only [Bool.or_eq_false_iff] at h4
      rcases hmen with h5 | h5
      · rw [h5] at h4; simp at h4
      · have h6 := h4.2
        rw [List.any_eq_false] at h6
        have := h6 d h5
        simp at this
    · exact h4

/-! ### Memory with some blocks away -/
section
variable {ρ : Env} {R R' R0 : Rl} {m m' m0 m1 m2 : AM} {w w' w0 : World}

def dels : List Nat → Tr ABlk → Tr ABlk
  | [], h => h
  | id :: l, h => dels l (h.del id)
theorem get_dels : ∀ (l : List Nat) (h : Tr ABlk) (id : Nat), (dels l h).get id = if id ∈ l then none else h.get id
  | [], h, id => by simp [dels]
  | j :: l, h, id => by
    rw [dels, get_dels l, Tr.get_del]
    by_cases e : id ∈ l
    · simp [e]
    · by_cases e' : id = j
      · simp [e']
      · simp [e, e']

theorem MemInv.sub (hi : MemInv ρ R m w) (h : ∀ id x, m'.h.get id = some x → m.h.get id = some x) (hn : m.nx ≤ m'.nx) : MemInv ρ R m' w :=
  ⟨fun id x hx => hi.rel id x (h _ _ hx), fun id id' x x' b hx hx' => hi.inj id id' x x' b (h _ _ hx) (h _ _ hx'), fun id hid => hi.fresh id (Nat.le_trans hn hid)⟩
theorem MStep.sub (hs : MStep R0 m0 w0 R m w) (h : ∀ id x, m'.h.get id = some x → m.h.get id = some x) (hn : m.nx ≤ m'.nx) : MStep R0 m0 w0 R m' w where
  ext := hs.ext
  nx := Nat.le_trans hs.nx hn
  size := hs.size
  frame := hs.frame
  live id x b hx hb := hs.live id x b (h _ _ hx) hb
  os := hs.os
  tape := hs.tape
  output := hs.output

/-- A block whose place was kept is made now. -/
theorem MemInv.fill (hi : MemInv ρ R m w) {id c : Nat} {x : ABlk} {o : Obj} (hb : R.blk id = none) (hlt : id < m.nx) (hn : m'.nx = m.nx) (hh : w'.heap = w.heap.push o)
    (ho : BRel ρ (R.push id w.heap.size c) id x o) (hg : ∀ j y, m'.h.get j = some y → (j = id ∧ y = x) ∨ (j ≠ id ∧ m.h.get j = some y)) : MemInv ρ (R.push id w.heap.size c) m' w' := by
  have hle : R.le (R.push id w.heap.size c) := Rl.push_le _ _ hb
  have hlt' : ∀ j y b, m.h.get j = some y → R.blk j = some b → b < w.heap.size := by
    intro j y b hy hb
    obtain ⟨b', o', hb', ho', _⟩ := hi.rel j y hy
    rw [hb] at hb'; cases hb'
    exact (Array.getElem?_eq_some_iff.1 ho').1
  refine ⟨?_, ?_, ?_⟩
  · intro j y hy
    rcases hg j y hy with ⟨rfl, rfl⟩ | ⟨_, hy'⟩
    · exact ⟨w.heap.size, o, Rl.push_blk _ _ _ _, by rw [hh]; simp, ho⟩
    · obtain ⟨b, o', hb', ho', hr⟩ := hi.rel j y hy'
      have := hlt' j y b hy' hb'
      refine ⟨b, o', (hle _ _ hb').1, ?_, hr.mono hle hb'⟩
      rw [hh, Array.getElem?_push, if_neg (by omega)]; exact ho'
  · intro j j' y y' b hy hy' hj hj'
    rcases hg j y hy with ⟨rfl, rfl⟩ | ⟨e, hz⟩ <;> rcases hg j' y' hy' with ⟨rfl, rfl⟩ | ⟨e', hz'⟩
    · rfl
    · rw [Rl.push_blk] at hj; cases hj
      rw [(Rl.push_ne R _ _ e').1] at hj'
      have := hlt' j' y' _ hz' hj'
      omega
    · rw [Rl.push_blk] at hj'; cases hj'
      rw [(Rl.push_ne R _ _ e).1] at hj
      have := hlt' j y _ hz hj
      omega
    · rw [(Rl.push_ne R _ _ e).1] at hj
      rw [(Rl.push_ne R _ _ e').1] at hj'
      exact hi.inj j j' y y' b hz hz' hj hj'
  · intro j hj
    rw [hn] at hj
    rw [(Rl.push_ne R _ _ (by omega)).1]
    exact hi.fresh j hj
theorem MStep.fill (hs : MStep R0 m0 w0 R m w) {id c : Nat} {x : ABlk} {o : Obj} (h0 : m0.nx ≤ id) (hn : m'.nx = m.nx) (hh : w'.heap = w.heap.push o) (hr : SameRest w w')
    (hg : ∀ j y, m'.h.get j = some y → (j = id ∧ y = x) ∨ (j ≠ id ∧ m.h.get j = some y)) : MStep R0 m0 w0 (R.push id w.heap.size c) m' w' where
  ext j hj := by
    obtain ⟨h1, h2⟩ := Rl.push_ne R w.heap.size c (show j ≠ id by omega)
    obtain ⟨h3, h4⟩ := hs.ext j hj
    exact ⟨h1.trans h3, h2.trans h4⟩
  nx := by rw [hn]; exact hs.nx
  size := by rw [hh]; simp; exact Nat.le_succ_of_le hs.size
  frame b hb hno := by
    have := hs.size
    rw [hh, Array.getElem?_push, if_neg (by omega)]
    exact hs.frame b hb hno
  live j y b hy hb := by
    rcases hg j y hy with ⟨rfl, rfl⟩ | ⟨e, hy'⟩
    · rw [Rl.push_blk] at hb; cases hb; exact .inl hs.size
    · rw [(Rl.push_ne R _ _ e).1] at hb
      exact hs.live j y b hy' hb
  os := hr.os.trans hs.os
  tape := hr.tape.trans hs.tape
  output := hr.output.trans hs.output

/-- A step of less memory, with the rest laid back. -/
theorem MemInv.over (hi : MemInv ρ R m w) (hsub : ∀ id x, m0.h.get id = some x → m.h.get id = some x) (hs : MStep R m0 w R' m1 w') (h1 : MemInv ρ R' m1 w') (hn0 : m0.nx = m.nx) (hn : m2.nx = m1.nx)
    (hg : ∀ id x, m2.h.get id = some x → m1.h.get id = some x ∨ (m.h.get id = some x ∧ m0.h.get id = none)) : MemInv ρ R' m2 w' ∧ MStep R m w R' m2 w' := by
  have hle : R.le R' := hs.le (hi.sub hsub (by omega))
  have old : ∀ id x, m.h.get id = some x → m0.h.get id = none → ∃ b o, R'.blk id = some b ∧ R.blk id = some b ∧ b < w.heap.size ∧ w'.heap[b]? = some o ∧ BRel ρ R' id x o ∧ (∀ id0 x0, m0.h.get id0 = some x0 → R.blk id0 ≠ some b) := by
    intro id x hx hno
    obtain ⟨b, o, hb, ho, hr⟩ := hi.rel id x hx
    have hne : ∀ id0 x0, m0.h.get id0 = some x0 → R.blk id0 ≠ some b := by
      intro id0 x0 hx0 hb0
      have := hi.inj id0 id x0 x b (hsub _ _ hx0) hx hb0 hb
      subst this; rw [hno] at hx0; cases hx0
    have hlt := (Array.getElem?_eq_some_iff.1 ho).1
    exact ⟨b, o, (hle _ _ hb).1, hb, hlt, by rw [hs.frame b hlt (fun id0 x0 hx0 _ => hne id0 x0 hx0)]; exact ho, hr.mono hle hb, hne⟩
  refine ⟨⟨?_, ?_, ?_⟩, ?_⟩
  · intro id x hx
    rcases hg id x hx with hx' | ⟨hx', hno⟩
    · exact h1.rel id x hx'
    · obtain ⟨b, o, q1, _, _, q4, q5, _⟩ := old id x hx' hno
      exact ⟨b, o, q1, q4, q5⟩
  · intro id id' x x' b hx hx' hb hb'
    have mixed : ∀ id id' x x', m1.h.get id = some x → m.h.get id' = some x' → m0.h.get id' = none → R'.blk id = some b → R'.blk id' = some b → False := by
      intro id id' x x' hx hx' hno hb hb'
      obtain ⟨b', o, q1, q2, q3, _, _, q6⟩ := old id' x' hx' hno
      rw [hb'] at q1; cases q1
      rcases hs.live id x b hx hb with hl | ⟨id0, x0, hx0, _, e0⟩
      · omega
      · exact q6 id0 x0 hx0 e0
    rcases hg id x hx with q | ⟨q, hno⟩ <;> rcases hg id' x' hx' with q' | ⟨q', hno'⟩
    · exact h1.inj id id' x x' b q q' hb hb'
    · exact (mixed id id' x x' q q' hno' hb hb').elim
    · exact (mixed id' id x' x q' q hno hb' hb).elim
    · obtain ⟨b1, o1, p1, p2, _⟩ := old id x q hno
      obtain ⟨b2, o2, r1, r2, _⟩ := old id' x' q' hno'
      rw [hb] at p1; cases p1
      rw [hb'] at r1; cases r1
      exact hi.inj id id' x x' b q q' p2 r2
  · intro id hid
    exact h1.fresh id (by omega)
  · refine ⟨fun id hid => hs.ext id (by omega), by rw [hn, ← hn0]; exact hs.nx, hs.size, ?_, ?_, hs.os, hs.tape, hs.output⟩
    · intro b hb hno
      exact hs.frame b hb fun id x hx hw => hno id x (hsub _ _ hx) hw
    · intro id x b hx hb
      rcases hg id x hx with hx' | ⟨hx', hno⟩
      · rcases hs.live id x b hx' hb with hl | ⟨id0, x0, hx0, hw, e0⟩
        · exact .inl hl
        · exact .inr ⟨id0, x0, hsub _ _ hx0, hw, e0⟩
      · obtain ⟨b1, o1, p1, p2, _⟩ := old id x hx' hno
        rw [hb] at p1; cases p1
        exact .inr ⟨id, x, hx', fun h => h, p2⟩
end

/-! ### What is open -/
def PR.isNew : PR → Bool
  | .val _ => false
  | .new _ _ => true
def openIds (L : Array Bool) : List Rec → List Nat
  | [] => []
  | c :: l => if L.getD c.i true = false ∧ c.r.isNew = true then c.id :: openIds L l else openIds L l
theorem mem_openIds {L : Array Bool} {id : Nat} : ∀ {recs : List Rec}, id ∈ openIds L recs ↔ ∃ c ∈ recs, L.getD c.i true = false ∧ c.r.isNew = true ∧ c.id = id
  | [] => by simp [openIds]
  | c :: l => by
    unfold openIds
    split
    · rename_i h
      rw [List.mem_cons, mem_openIds]
      constructor
      · rintro (rfl | ⟨c', hc, h'⟩)
        · exact ⟨c, by simp, h.1, h.2, rfl⟩
        · exact ⟨c', by simp [hc], h'⟩
      · rintro ⟨c', hc, h1, h2, h3⟩
        rcases List.mem_cons.1 hc with rfl | hc
        · exact .inl h3.symm
        · exact .inr ⟨c', hc, h1, h2, h3⟩
    · rename_i h
      rw [mem_openIds]
      constructor
      · rintro ⟨c', hc, h'⟩
        exact ⟨c', by simp [hc], h'⟩
      · rintro ⟨c', hc, h1, h2, h3⟩
        rcases List.mem_cons.1 hc with rfl | hc
        · exact (h ⟨h1, h2⟩).elim
        · exact ⟨c', hc, h1, h2, h3⟩
def OpenT (L : Array Bool) (recs : List Rec) (t : Nat) : Prop := ∃ c ∈ recs, L.getD c.i true = false ∧ c.o.dst = some t

/-- The books of a region under way. -/
structure Stg (ops : Array Oper) (L : Array Bool) (effs quiet : List (Nat × Oper)) (recs : List Rec) : Prop where
  size : L.size = ops.size
  down : DownC ops L
  cover : ∀ i, i < ops.size → L.getD i true = false → (∃ o, (i, o) ∈ effs) ∨ (∃ o, (i, o) ∈ quiet) ∨ ∃ c ∈ recs, c.i = i
  effsOk : ∀ i o, (i, o) ∈ effs → ops[i]? = some o ∧ isEffD o.op = true ∧ L.getD i true = false
  quietOk : ∀ i o, (i, o) ∈ quiet → ops[i]? = some o ∧ isEffD o.op = false ∧ L.getD i true = false
  recsOk : ∀ c ∈ recs, ops[c.i]? = some c.o ∧ isEffD c.o.op = false
  effsNd : (effs.map (·.1)).Nodup
  quietNd : (quiet.map (·.1)).Nodup
  recNd : ∀ c ∈ recs, ∀ c' ∈ recs, c.i = c'.i → c = c'
  apart : ∀ c ∈ recs, ∀ o, (c.i, o) ∉ quiet

theorem Stg.perm {ops : Array Oper} {L : Array Bool} {effs quiet quiet' : List (Nat × Oper)} {recs : List Rec} (h : Stg ops L effs quiet recs) (hp : quiet.Perm quiet') : Stg ops L effs quiet' recs :=
  ⟨h.size, h.down, fun i hi hl => by
      rcases h.cover i hi hl with q | ⟨o, q⟩ | q
      · exact .inl q
      · exact .inr (.inl ⟨o, hp.mem_iff.1 q⟩)
      · exact .inr (.inr q),
    h.effsOk, fun i o q => h.quietOk i o (hp.mem_iff.2 q), h.recsOk, h.effsNd, (hp.map _).nodup_iff.1 h.quietNd, h.recNd, fun c hc o q => h.apart c hc o (hp.mem_iff.2 q)⟩

/-- The machine's state against what has been reckoned ahead. -/
structure Real (ρ : Env) (G : Nat) (R0 : Rl) (m0 : AM) (w0 : World) (L : Array Bool) (s : AS) (recs : List Rec) (R : Rl) (a : Act) (w : World) : Prop where
  now : Now ρ G R (OpenT L recs) (s.mem ⟨dels (openIds L recs) s.m.h, s.m.nx⟩) a w
  step : MStep R0 m0 w0 R ⟨dels (openIds L recs) s.m.h, s.m.nx⟩ w
  ids : ∀ c ∈ recs, c.r.isNew = true → m0.nx ≤ c.id ∧ c.id < s.m.nx
  opn : ∀ id ∈ openIds L recs, R.blk id = none
  sep : ∀ c ∈ recs, ∀ c' ∈ recs, c.r.isNew = true → c'.r.isNew = true → c.id = c'.id → c.i = c'.i

section
variable {P : Program} {G : Nat} {ρ : Env}

theorem AS.put_nt (s : AS) (dst : Option Tmp) (v : AVal) : (s.put dst v).nt = s.nt := by
  unfold AS.put; split
  · rfl
  · split <;> rfl
theorem AS.put_m (s : AS) (dst : Option Tmp) (v : AVal) : (s.put dst v).m = s.m := by
  unfold AS.put; split
  · rfl
  · split <;> rfl
theorem AS.put_marks (s : AS) (dst : Option Tmp) (v : AVal) : (s.put dst v).marks = s.marks := by
  unfold AS.put; split
  · rfl
  · split <;> rfl
theorem AS.put_tm (s : AS) (dst : Option Tmp) (v : AVal) (t : Nat) (h : dst ≠ some t) : tmv (s.put dst v).tm t = tmv s.tm t := by
  unfold AS.put; split
  · rfl
  · rename_i d
    split
    · have : t ≠ d := fun e => h (by rw [e])
      simp [tmv, Tr.get_set, this]
    · rfl

/-- One more reckoned ahead. -/
theorem Real.ahead {R0 R : Rl} {m0 : AM} {w0 w : World} {L : Array Bool} {s : AS} {recs : List Rec} {a : Act} (h : Real ρ G R0 m0 w0 L s recs R a w) {i : Nat} {o : Oper} {r : PR} (hl : L.getD i true = false) :
    Real ρ G R0 m0 w0 L (s.putR o.dst r) (⟨i, o, r, s.m.nx⟩ :: recs) R a w := by
  have hT : ∀ t, ¬ OpenT L (⟨i, o, r, s.m.nx⟩ :: recs) t → ¬ OpenT L recs t ∧ o.dst ≠ some t := by
    intro t ht
    refine ⟨fun ⟨c, hc, q⟩ => ht ⟨c, by simp [hc], q⟩, fun e => ht ⟨_, List.mem_cons_self .., hl, e⟩⟩
  have hfresh : ∀ j, s.m.nx ≤ j → R.blk j = none := h.now.mem.fresh
  have hnt : (s.putR o.dst r).nt = s.nt := by cases r <;> simp [AS.putR, AS.put_nt, AS.mem]
  have hmk : (s.putR o.dst r).marks = s.marks := by cases r <;> simp [AS.putR, AS.put_marks, AS.mem]
  have htm : ∀ t, o.dst ≠ some t → tmv (s.putR o.dst r).tm t = tmv s.tm t := by
    intro t ht
    cases r <;> simp only [AS.putR]
    · exact AS.put_tm _ _ _ _ ht
    · rw [AS.put_tm _ _ _ _ ht]; rfl
  have hnx : s.m.nx ≤ (s.putR o.dst r).m.nx := by cases r <;> simp [AS.putR, AS.put_m, AS.mem, AM.push]
  have hget : ∀ id x, (dels (openIds L (⟨i, o, r, s.m.nx⟩ :: recs)) (s.putR o.dst r).m.h).get id = some x → (dels (openIds L recs) s.m.h).get id = some x := by
    intro id x hx
    rw [get_dels] at hx ⊢
    cases r with
    | val v =>
      have e : openIds L (⟨i, o, .val v, s.m.nx⟩ :: recs) = openIds L recs := by simp [openIds, PR.isNew]
      rw [e] at hx
      simpa [AS.putR, AS.put_m] using hx
    | new y nk =>
      have e : openIds L (⟨i, o, .new y nk, s.m.nx⟩ :: recs) = s.m.nx :: openIds L recs := by simp [openIds, PR.isNew, hl]
      rw [e] at hx
      simp only [AS.putR, AS.put_m, AS.mem, AM.push, Tr.get_set, List.mem_cons] at hx
      by_cases e1 : id = s.m.nx
      · simp [e1] at hx
      · simpa [e1] using hx
  refine ⟨⟨h.now.mem.sub hget hnx, h.now.glob, ⟨by rw [show a.tmps.size = s.nt from h.now.tm.1]; exact hnt.symm, fun t ht => ?_⟩, by
      have := h.now.marks
      simp only [AS.mem] at this ⊢
      rw [hmk]; exact this⟩, h.step.sub hget hnx, ?_, ?_, ?_⟩
  · obtain ⟨h1, h2⟩ := hT t ht
    have := h.now.tm.2 t h1
    simp only [AS.mem] at this ⊢
    rw [htm t h2]; exact this
  · intro c hc hnew
    rcases List.mem_cons.1 hc with rfl | hc
    · refine ⟨h.step.nx, ?_⟩
      cases r with
      | val v => simp [PR.isNew] at hnew
      | new y nk => simp [AS.putR, AS.put_m, AS.mem, AM.push]
    · have := h.ids c hc hnew
      exact ⟨this.1, Nat.lt_of_lt_of_le this.2 hnx⟩
  · intro id hid
    obtain ⟨c, hc, h1, h2, h3⟩ := mem_openIds.1 hid
    rcases List.mem_cons.1 hc with rfl | hc
    · subst h3; exact hfresh _ (Nat.le_refl _)
    · exact h.opn id (mem_openIds.2 ⟨c, hc, h1, h2, h3⟩)
  · intro c hc c' hc' hn hn' e
    rcases List.mem_cons.1 hc with rfl | hc <;> rcases List.mem_cons.1 hc' with rfl | hc'
    · rfl
    · have := (h.ids c' hc' hn').2
      simp only at e; omega
    · have := (h.ids c hc hn).2
      simp only at e; omega
    · exact h.sep c hc c' hc' hn hn' e

theorem eager_ok {R0 R : Rl} {m0 : AM} {w0 w : World} {L : Array Bool} {a : Act} {ops : Array Oper} {anc : List Nat} {left : Nat} {effs quiet' : List (Nat × Oper)} {s' : AS} {recs' : List Rec} : ∀ (l : List (Nat × Oper)) (s : AS) (recs : List Rec) (rest : List (Nat × Oper)),
    eager P G ops anc left l s recs rest = some (s', recs', quiet') → Stg ops L effs (l ++ rest) recs → Real ρ G R0 m0 w0 L s recs R a w →
    (∀ x ∈ rest, Nat.land ((anc[x.1]?).getD 0) left ≠ 0) →
    Stg ops L effs quiet' recs' ∧ Real ρ G R0 m0 w0 L s' recs' R a w ∧ ∀ x ∈ quiet', Nat.land ((anc[x.1]?).getD 0) left ≠ 0
  | [], s, recs, rest, he, hS, hR, hb => by
    simp only [eager, Option.some.injEq, Prod.mk.injEq] at he
    obtain ⟨rfl, rfl, rfl⟩ := he
    exact ⟨hS.perm (by simpa using (List.reverse_perm rest).symm), hR, fun x hx => hb x (by simpa using hx)⟩
  | (i, o) :: l, s, recs, rest, he, hS, hR, hb => by
    unfold eager at he
    split at he
    · rename_i hz
      refine eager_ok l s recs ((i, o) :: rest) he (hS.perm (by simpa using (List.perm_middle (l₁ := l) (a := (i, o)) (l₂ := rest)).symm)) hR (fun x hx => ?_)
      rcases List.mem_cons.1 hx with rfl | hx
      · intro e; simp only at e; rw [e] at hz; simp at hz
      · exact hb x hx
    · split at he
      · rename_i r hr
        obtain ⟨q1, q2, q3⟩ := hS.quietOk i o (by simp)
        have hnd := hS.quietNd
        simp only [List.cons_append, List.map_cons, List.nodup_cons] at hnd
        refine eager_ok l _ _ rest he ⟨hS.size, hS.down, fun j hj hl => ?_, hS.effsOk, fun j p hp => hS.quietOk j p (by simp only [List.cons_append, List.mem_cons]; exact .inr hp), fun c hc => ?_, hS.effsNd, hnd.2, fun c hc c' hc' e => ?_, fun c hc p hp => ?_⟩ (hR.ahead q3) hb
        · rcases hS.cover j hj hl with q | ⟨p, q⟩ | ⟨c, q, e⟩
          · exact .inl q
          · simp only [List.cons_append, List.mem_cons, Prod.mk.injEq] at q
            rcases q with ⟨rfl, rfl⟩ | q
            · exact .inr (.inr ⟨_, List.mem_cons_self .., rfl⟩)
            · exact .inr (.inl ⟨p, q⟩)
          · exact .inr (.inr ⟨c, by simp [q], e⟩)
        · rcases List.mem_cons.1 hc with rfl | hc
          · exact ⟨q1, q2⟩
          · exact hS.recsOk c hc
        · rcases List.mem_cons.1 hc with rfl | hc <;> rcases List.mem_cons.1 hc' with rfl | hc'
          · rfl
          · exact (hS.apart c' hc' o (by simp only at e; rw [← e]; simp)).elim
          · exact (hS.apart c hc o (by simp only at e; rw [e]; simp)).elim
          · exact hS.recNd c hc c' hc' e
        · rcases List.mem_cons.1 hc with rfl | hc
          · exact hnd.1 (List.mem_map.2 ⟨_, hp, rfl⟩)
          · exact hS.apart c hc p (by simp only [List.cons_append, List.mem_cons]; exact .inr hp)
      · cases he

/-! ### What the reckoning has checked -/
theorem hideB_spec {mask : Nat} : ∀ (recs : List Rec) (h h' : Tr ABlk) (hid : List (Nat × ABlk)), hideB mask recs h = some (h', hid) →
    (∀ id x, h'.get id = some x → h.get id = some x) ∧
    (∀ id x, (id, x) ∈ hid → h'.get id = none ∧ ∃ c ∈ recs, ∃ nk, c.r = .new x nk ∧ c.id = id) ∧
    (∀ c ∈ recs, c.r.isNew = true → Nat.testBit mask c.i = false → h'.get c.id = none)
  | [], h, h', hid, he => by
    simp only [hideB, Option.some.injEq, Prod.mk.injEq] at he
    obtain ⟨rfl, rfl⟩ := he
    exact ⟨fun _ _ hx => hx, fun _ _ hx => by simp at hx, fun _ hx => by simp at hx⟩
  | c :: l, h, h', hid, he => by
    unfold hideB at he
    split at he
    · rename_i v hv
      obtain ⟨h1, h2, h3⟩ := hideB_spec l h h' hid he
      refine ⟨h1, fun id x hx => ?_, fun c' hc hn hm => ?_⟩
      · obtain ⟨q1, c', q2, q3⟩ := h2 id x hx
        exact ⟨q1, c', by simp [q2], q3⟩
      · rcases List.mem_cons.1 hc with rfl | hc
        · rw [hv] at hn; simp [PR.isNew] at hn
        · exact h3 c' hc hn hm
    · rename_i y nk hv
      split at he
      · rename_i hb
        obtain ⟨h1, h2, h3⟩ := hideB_spec l h h' hid he
        refine ⟨h1, fun id x hx => ?_, fun c' hc hn hm => ?_⟩
        · obtain ⟨q1, c', q2, q3⟩ := h2 id x hx
          exact ⟨q1, c', by simp [q2], q3⟩
        · rcases List.mem_cons.1 hc with rfl | hc
          · rw [hb] at hm; cases hm
          · exact h3 c' hc hn hm
      · split at he
        · rename_i h1' hid' he'
          cases he
          obtain ⟨h1, h2, h3⟩ := hideB_spec l _ _ hid' he'
          have hgone : h'.get c.id = none := by
            cases hg : h'.get c.id with
            | none => rfl
            | some x =>
              have := h1 _ _ hg
              rw [Tr.get_del, if_pos rfl] at this; cases this
          refine ⟨fun id x hx => ?_, fun id x hx => ?_, fun c' hc hn hm => ?_⟩
          · have := h1 _ _ hx
            rw [Tr.get_del] at this
            split at this
            · cases this
            · exact this
          · rcases List.mem_cons.1 hx with e | hx
            · cases e; exact ⟨hgone, c, by simp, nk, hv, rfl⟩
            · obtain ⟨q1, c', q2, q3⟩ := h2 id x hx
              exact ⟨q1, c', by simp [q2], q3⟩
          · rcases List.mem_cons.1 hc with rfl | hc
            · exact hgone
            · exact h3 c' hc hn hm
        · cases he
theorem showB_spec : ∀ (hid : List (Nat × ABlk)) (h : Tr ABlk) (id : Nat) (x : ABlk), (showB hid h).get id = some x → (id, x) ∈ hid ∨ h.get id = some x
  | [], h, id, x, he => .inr he
  | (j, y) :: l, h, id, x, he => by
    rw [showB] at he
    rcases showB_spec l _ _ _ he with q | q
    · exact .inl (by simp [q])
    · rw [Tr.get_set] at q
      split at q
      · rename_i e; subst e; cases q; exact .inl (by simp)
      · exact .inr q
theorem mem_notBehind {anc : List Nat} {i mask : Nat} : ∀ {recs : List Rec} {c : Rec}, c ∈ notBehind anc i mask recs ↔ c ∈ recs ∧ Nat.testBit mask c.i = false
  | [], c => by simp [notBehind]
  | d :: l, c => by
    unfold notBehind
    split
    · rename_i hb
      rw [mem_notBehind]
      constructor
      · rintro ⟨q1, q2⟩; exact ⟨by simp [q1], q2⟩
      · rintro ⟨q1, q2⟩
        rcases List.mem_cons.1 q1 with rfl | q1
        · rw [hb] at q2; cases q2
        · exact ⟨q1, q2⟩
    · rename_i hb
      rw [List.mem_cons, mem_notBehind]
      constructor
      · rintro (rfl | ⟨q1, q2⟩)
        · exact ⟨by simp, hb⟩
        · exact ⟨by simp [q1], q2⟩
      · rintro ⟨q1, q2⟩
        rcases List.mem_cons.1 q1 with rfl | q1
        · exact .inl rfl
        · exact .inr ⟨q1, q2⟩
theorem stable_spec {ops : Array Oper} {s : AS} : ∀ {recs : List Rec}, stable P G ops s recs = true → ∀ c ∈ recs, peekG P G ops s c.o = some c.r ∧ (∀ d, c.o.dst = some d → d < s.nt ∧ tmv s.tm d = c.v) ∧ (∀ x nk, c.r = .new x nk → s.m.h.get c.id = some x)
  | [], _, c, hc => by simp at hc
  | d :: l, h, c, hc => by
    unfold stable at h
    split at h
    · rename_i r hr
      split at h
      · rename_i h1 h2 h3
        rcases List.mem_cons.1 hc with rfl | hc
        · refine ⟨by rw [hr, PR.eqb_ok h1], fun d hd => ?_, fun x nk hx => ?_⟩
          · unfold dstSame at h2
            rw [hd] at h2
            simp only at h2
            split at h2
            · rename_i hlt; exact ⟨blt_true hlt, AVal.eqb_ok h2⟩
            · cases h2
          · unfold blkSame at h3
            rw [hx] at h3
            simp only at h3
            split at h3
            · rename_i y hy; rw [hy, ABlk.eqb_ok h3]
            · cases h3
        · exact stable_spec h c hc
      · cases h
    · cases h
theorem effBits_spec : ∀ (l : List (Nat × Oper)) (j : Nat), (effBits l).testBit j = true → ∃ o, (j, o) ∈ l
  | [], j, h => by simp [effBits] at h
  | (i, o) :: l, j, h => by
    have h' : ((1 <<< i) ||| effBits l).testBit j = true := h
    rw [Nat.testBit_or, Bool.or_eq_true] at h'
    rcases h' with h' | h'
    · have e : i = j := by
        rw [Nat.one_shiftLeft, Nat.testBit_two_pow] at h'
        simpa using h'
      exact ⟨o, by simp [e]⟩
    · obtain ⟨o', q⟩ := effBits_spec l j h'
      exact ⟨o', by simp [q]⟩
theorem allBehind_spec {anc : List Nat} {i : Nat} : ∀ {l : List (Nat × Oper)}, allBehind anc i l = true → ∀ j o, (j, o) ∈ l → ancB anc i j = true
  | [], _, _, _, h => by simp at h
  | (j0, o0) :: l, h, j, o, hj => by
    unfold allBehind at h
    split at h
    · rename_i hb
      rcases List.mem_cons.1 hj with e | hj
      · cases e; exact hb
      · exact allBehind_spec h j o hj
    · cases h

theorem clear_ready {ops : Array Oper} {L : Array Bool} {effs quiet : List (Nat × Oper)} {recs : List Rec} {i : Nat} {o : Oper} (hown : ownTmps ops (CheckFast.beforeF ops).toList (number ops.toList 0) = true) (hS : Stg ops L effs quiet recs)
    (hr : i ∈ Region.ready .any ops L) (ho : ops[i]? = some o) : Clear (OpenT L recs) ops o := by
  intro t ht ⟨c, hc, hl, hd⟩
  obtain ⟨q1, q2⟩ := hS.recsOk c hc
  have hm : ∀ {j q}, ops[j]? = some q → (j, q) ∈ number ops.toList 0 := fun {j q} hj => (number_spec _ _ _ _).2 ⟨Nat.zero_le _, by simpa using hj⟩
  obtain ⟨h1, h2⟩ := ownTmps_spec hown (hm q1) q2 hd
  by_cases e : i = c.i
  · subst e; rw [q1] at ho; cases ho; exact h1 ht
  · have h3 := h2 i o (hm ho) e (.inr ht)
    have := ready_anc hr hS.down h3
    rw [hl] at this; cases this

theorem setL {L : Array Bool} {i j : Nat} : (L.setIfInBounds i true).getD j true = false ↔ j ≠ i ∧ L.getD j true = false := by
  rw [getD_set]
  split
  · rename_i e; simp [e]
  · rename_i e; simp [e]

/-- One that was reckoned ahead has been done. -/
theorem Real.listed {R0 R R' : Rl} {m0 : AM} {w0 w w' : World} {ops : Array Oper} {L : Array Bool} {effs quiet : List (Nat × Oper)} {s : AS} {recs : List Rec} {a : Act} {c : Rec} {u : Value} (hS : Stg ops L effs quiet recs)
    (hR : Real ρ G R0 m0 w0 L s recs R a w) (hst : stable P G ops s recs = true) (hc : c ∈ recs) (hle : R.le R')
    (hm : MemInv ρ R' ⟨dels (openIds (L.setIfInBounds c.i true) recs) s.m.h, s.m.nx⟩ w') (hs : MStep R0 m0 w0 R' ⟨dels (openIds (L.setIfInBounds c.i true) recs) s.m.h, s.m.nx⟩ w')
    (hv : VRel ρ R' c.v u) (ho : ∀ id ∈ openIds (L.setIfInBounds c.i true) recs, R'.blk id = none) :
    Real ρ G R0 m0 w0 (L.setIfInBounds c.i true) s recs R' (a.put c.o.dst u) w' := by
  refine ⟨⟨hm, hR.now.glob.mono hle, ⟨?_, fun t ht => ?_⟩, ?_⟩, hs, hR.ids, ho, hR.sep⟩
  · have h1 : a.tmps.size = s.nt := hR.now.tm.1
    unfold Act.put
    split
    · rw [Array.size_setIfInBounds]; exact h1
    · exact h1
  · have h1 : a.tmps.size = s.nt := hR.now.tm.1
    by_cases e : c.o.dst = some t
    · obtain ⟨q1, q2⟩ := (stable_spec hst c hc).2.1 t e
      have e2 : (a.put c.o.dst u).tmps.getD t Go.undef = u := by
        rw [e]; unfold Act.put; simp [Array.getD, h1, q1]
      rw [e2]
      show VRel ρ R' (tmv s.tm t) u
      rw [q2]; exact hv
    · have hno : ¬ OpenT L recs t := by
        rintro ⟨c', hc', hl, hd⟩
        refine ht ⟨c', hc', setL.2 ⟨fun e' => e ?_, hl⟩, hd⟩
        rw [← hS.recNd c' hc' c hc e']; exact hd
      have := VRel.mono hle _ _ (hR.now.tm.2 t hno)
      have e2 : (a.put c.o.dst u).tmps.getD t Go.undef = a.tmps.getD t Go.undef := by
        unfold Act.put
        split
        · rename_i d hd
          rw [Array.getD_eq_getD_getElem?, Array.getD_eq_getD_getElem?, Array.getElem?_setIfInBounds_ne (fun x => e (by rw [hd, x]))]
        · rfl
      rw [e2]; exact this
  · have := (hR.now.marks).mono hle
    unfold Act.put
    split
    · exact this
    · exact this

theorem Stg.listed {ops : Array Oper} {L : Array Bool} {effs quiet : List (Nat × Oper)} {recs : List Rec} {c : Rec} (hS : Stg ops L effs quiet recs) (hr : c.i ∈ Region.ready .any ops L) (hc : c ∈ recs) : Stg ops (L.setIfInBounds c.i true) effs quiet recs := by
  obtain ⟨q1, q2⟩ := hS.recsOk c hc
  refine ⟨by simpa using hS.size, downC_set hr hS.down, fun j hj hl => hS.cover j hj (setL.1 hl).2, fun j o hj => ?_, fun j o hj => ?_, hS.recsOk, hS.effsNd, hS.quietNd, hS.recNd, hS.apart⟩
  · obtain ⟨p1, p2, p3⟩ := hS.effsOk j o hj
    refine ⟨p1, p2, setL.2 ⟨fun e => ?_, p3⟩⟩
    rw [e, q1] at p1; cases p1
    rw [p2] at q2; cases q2
  · obtain ⟨p1, p2, p3⟩ := hS.quietOk j o hj
    exact ⟨p1, p2, setL.2 ⟨fun e => hS.apart c hc o (e ▸ hj), p3⟩⟩

/-- What was reckoned ahead is done now, and comes to the same. -/
theorem rec_step {R0 R : Rl} {m0 : AM} {w0 w : World} {ops : Array Oper} {L : Array Bool} {effs quiet : List (Nat × Oper)} {s : AS} {recs : List Rec} {a : Act} {c : Rec} {b : Frame} {rest : List Nat} {k : List Item} {cs : List Frame}
    (hown : ownTmps ops (CheckFast.beforeF ops).toList (number ops.toList 0) = true) (hS : Stg ops L effs quiet recs) (hR : Real ρ G R0 m0 w0 L s recs R a w) (hst : stable P G ops s recs = true)
    (hc : c ∈ recs) (hr : c.i ∈ Region.ready .any ops L) :
    ∃ R' a' w', Real ρ G R0 m0 w0 (L.setIfInBounds c.i true) s recs R' a' w' ∧
      Steps P (lone (b.atR a (.inRegion ops (c.i :: rest) :: k)) cs w) (lone (b.atR a' (.inRegion ops rest :: k)) cs w') := by
  obtain ⟨ho, hq⟩ := hS.recsOk c hc
  have hl : L.getD c.i true = false := by obtain ⟨_, _, h, _⟩ := ready_spec hr; exact h
  have hcl := clear_ready hown hS hr ho
  have hn := hR.now
  have hw := want_ok hn hcl
  obtain ⟨hpk, _, hblk⟩ := stable_spec hst c hc
  have hget : ∀ id, id ∈ openIds L recs → id ∈ openIds (L.setIfInBounds c.i true) recs ∨ (c.r.isNew = true ∧ id = c.id) := by
    intro id hid
    obtain ⟨c', hc', h1, h2, h3⟩ := mem_openIds.1 hid
    by_cases e : c'.i = c.i
    · have := hS.recNd c' hc' c hc e
      subst this; exact .inr ⟨h2, h3.symm⟩
    · exact .inl (mem_openIds.2 ⟨c', hc', setL.2 ⟨e, h1⟩, h2, h3⟩)
  have hopn : ∀ id, id ∈ openIds (L.setIfInBounds c.i true) recs → id ∈ openIds L recs ∧ (c.r.isNew = true → id ≠ c.id) := by
    intro id hid
    obtain ⟨c', hc', h1, h2, h3⟩ := mem_openIds.1 hid
    obtain ⟨h4, h5⟩ := setL.1 h1
    exact ⟨mem_openIds.2 ⟨c', hc', h5, h2, h3⟩, fun hnew e => h4 (hR.sep c' hc' c hc h2 hnew (h3.trans e))⟩
  -- nothing made
  have quiet0 : ∀ u, c.r.isNew = false → VRel ρ R c.v u → Real ρ G R0 m0 w0 (L.setIfInBounds c.i true) s recs R (a.put c.o.dst u) w := by
    intro u hnew hv
    have hsub : ∀ id x, (dels (openIds (L.setIfInBounds c.i true) recs) s.m.h).get id = some x → (dels (openIds L recs) s.m.h).get id = some x := by
      intro id x hx
      rw [get_dels] at hx ⊢
      split at hx
      · cases hx
      · rename_i hno
        rw [if_neg]
        · exact hx
        · intro hid
          rcases hget id hid with q | ⟨q, _⟩
          · exact hno q
          · rw [hnew] at q; cases q
    exact hR.listed hS hst hc (fun _ _ h => ⟨h, rfl⟩) (hn.mem.sub hsub (Nat.le_refl _)) (hR.step.sub hsub (Nat.le_refl _)) hv (fun id hid => hR.opn id (hopn id hid).1)
  have hheap : HeapOk ρ R s.m.h w := by
    intro id x bb hx hb
    refine hn.mem.ok id x bb ?_ hb
    show (dels (openIds L recs) s.m.h).get id = some x
    rw [get_dels, if_neg]
    · exact hx
    · intro hid
      rw [hR.opn id hid] at hb; cases hb
  have go : ∀ nx w1 (Q : Value → World → Prop), Region.wanted c.o (yielded ops a.tmps) = true → (execOp a.eval c.o).run P w = .ok nx w1 → NextOk P nx w1 Q → (∀ d, c.o.op ≠ .defer d) →
      ∃ u w', Q u w' ∧ Steps P (lone (b.atR a (.inRegion ops (c.i :: rest) :: k)) cs w) (lone (b.atR (a.put c.o.dst u) (.inRegion ops rest :: k)) cs w') := by
    intro nx w1 Q hyes hrun hno hnd
    have hg := stepGR_op (P := P) (b := b) (a := a) (k := k) (cs := cs) (w := w) (rest := rest) ho hyes
    rw [Oper.semAt_eq _ _ _ hnd] at hg
    obtain ⟨u, w', hq, hsteps⟩ := apply_next (congrArg GStep.bare hg) (by intro d r x k'; simp [Frame.atR]) hrun hno
    rw [Frame.finish_atR, ho] at hsteps
    exact ⟨u, w', hq, hsteps⟩
  unfold peekG at hpk
  rw [peekF_eq] at hpk
  split at hpk
  · rename_i hwt
    have hw : Region.wanted c.o (yielded ops a.tmps) = true := by
      have e : wantA ops (s.mem ⟨dels (openIds L recs) s.m.h, s.m.nx⟩).tm c.o.guard = .yes := hwt
      rw [e] at hw; exact hw
    split at hpk
    · rename_i r hp
      cases hpk
      have hnd : ∀ d, c.o.op ≠ .defer d := fun d e => by rw [e] at hp; simp [peek] at hp
      have hok := peek_ok hheap (evOk_of hn hcl) hp (fun b hb => by simp at hb)
      cases hcr : c.r with
      | val v =>
        rw [hcr] at hok
        obtain ⟨u, q1, q2⟩ := hok
        obtain ⟨u', w', ⟨rfl, rfl⟩, hsteps⟩ := go (.value u) w (fun u' w' => u' = u ∧ w' = w) hw q1 ⟨rfl, rfl⟩ hnd
        exact ⟨R, _, _, quiet0 _ (by rw [hcr]; rfl) (by simpa [Rec.v, hcr] using q2), hsteps⟩
      | new x nk =>
        rw [hcr] at hok
        obtain ⟨u, w1, ob, cc, q1, q2, q3, q4⟩ := hok
        have hnew : c.r.isNew = true := by rw [hcr]; rfl
        have hnone : R.blk c.id = none := hR.opn _ (mem_openIds.2 ⟨c, hc, hl, hnew, rfl⟩)
        obtain ⟨q5, q6⟩ := q4 c.id hnone
        obtain ⟨i1, i2⟩ := hR.ids c hc hnew
        obtain ⟨u', w', ⟨rfl, rfl⟩, hsteps⟩ := go (.value u) w1 (fun u' w' => u' = u ∧ w' = w1) hw q1 ⟨rfl, rfl⟩ hnd
        have hg : ∀ j y, (⟨dels (openIds (L.setIfInBounds c.i true) recs) s.m.h, s.m.nx⟩ : AM).h.get j = some y → (j = c.id ∧ y = x) ∨ (j ≠ c.id ∧ (⟨dels (openIds L recs) s.m.h, s.m.nx⟩ : AM).h.get j = some y) := by
          intro j y hy
          simp only [get_dels] at hy ⊢
          split at hy
          · cases hy
          · rename_i hno
            by_cases e : j = c.id
            · subst e; rw [hblk x nk hcr] at hy; cases hy; exact .inl ⟨rfl, rfl⟩
            · refine .inr ⟨e, ?_⟩
              rw [if_neg]
              · exact hy
              · intro hid
                rcases hget j hid with q | ⟨_, q⟩
                · exact hno q
                · exact e q
        refine ⟨R.push c.id w.heap.size cc, _, _, hR.listed hS hst hc (Rl.push_le _ _ hnone) (hn.mem.fill hnone i2 rfl q2 q5 hg) (hR.step.fill i1 rfl q2 q3 hg) (by simpa [Rec.v, hcr] using q6) (fun id hid => ?_), hsteps⟩
        obtain ⟨p1, p2⟩ := hopn id hid
        rw [(Rl.push_ne R _ _ (p2 hnew)).1]; exact hR.opn id p1
    · cases hpk
  · rename_i hwt
    have hw : Region.wanted c.o (yielded ops a.tmps) = false := by
      have e : wantA ops (s.mem ⟨dels (openIds L recs) s.m.h, s.m.nx⟩).tm c.o.guard = .no := hwt
      rw [e] at hw; exact hw
    simp only [Option.some.injEq] at hpk
    refine ⟨R, a.put c.o.dst Go.undef, w, quiet0 _ (by rw [← hpk]; rfl) (by simp only [Rec.v, ← hpk]; exact VRel.undef _ _), .one ?_⟩
    have := stepR_op_skip (P := P) (b := b) (a := a) (k := k) (cs := cs) (w := w) (ops := ops) (i := c.i) (rest := rest) (by simp [ho, hw])
    rw [this]; simp [ho]
  · cases hpk

variable {τ : Type} {Post : τ → Prop} {rec : Job τ → Tree τ}

/-- What remains to be asked once all that can be has been reckoned ahead. -/
def After (P : Program) (G : Nat) (ρ : Env) (Post : τ → Prop) (rec : Job τ → Tree τ) (cx : Cx) (ops : Array Oper) (anc : List Nat) (K : AS → Tree τ) (quiet : List (Nat × Oper)) (s : AS) (recs : List Rec) : List (Nat × Oper) → Prop
  | [] => quiet = [] ∧ (K s).sat ρ Post
  | (i, o) :: effs => allBehind anc i effs = true ∧ ∃ h hid, hideB ((anc[i]?).getD 0) recs s.m.h = some (h, hid) ∧
      (stepOp P G rec cx ops (s.mem ⟨h, s.m.nx⟩) o fun s => drawnGo P G rec cx ops anc effs quiet (s.mem ⟨showB hid s.m.h, s.m.nx⟩) (notBehind anc i ((anc[i]?).getD 0) recs) K).sat ρ Post

theorem drawnGo_after {cx : Cx} {ops : Array Oper} {anc : List Nat} {effs quiet : List (Nat × Oper)} {s : AS} {recs : List Rec} {K : AS → Tree τ} (h : (drawnGo P G rec cx ops anc effs quiet s recs K).sat ρ Post) :
    ∃ s' recs' quiet', eager P G ops anc (effBits effs) quiet s recs [] = some (s', recs', quiet') ∧ stable P G ops s' recs' = true ∧ After P G ρ Post rec cx ops anc K quiet' s' recs' effs := by
  cases effs with
  | nil =>
    unfold drawnGo at h
    split at h
    · rename_i s' recs' he
      split at h
      · rename_i hst; exact ⟨s', recs', [], he, hst, rfl, h⟩
      · exact h.elim
    · exact h.elim
  | cons x effs =>
    obtain ⟨i, o⟩ := x
    unfold drawnGo at h
    split at h
    · rename_i s' recs' quiet' he
      split at h
      · rename_i h1 h2
        simp only at h
        split at h
        · rename_i hh hid hhide
          exact ⟨s', recs', quiet', he, h1, h2, hh, hid, hhide, h⟩
        · exact h.elim
      · exact h.elim
      · exact h.elim
    · exact h.elim

/-- The effect at the head is done now. -/
theorem head_step (hrec : ∀ j, JOk P G ρ Post rec j) {R0 R : Rl} {m0 : AM} {w0 w : World} {cx : Cx} {ops : Array Oper} {L : Array Bool} {i : Nat} {o : Oper} {effs quiet : List (Nat × Oper)} {s : AS} {recs : List Rec} {a : Act} {b : Frame} {rest : List Nat} {k : List Item} {cs : List Frame} {h : Tr ABlk} {hid : List (Nat × ABlk)} {K' : AS → Tree τ}
    (hown : ownTmps ops (CheckFast.beforeF ops).toList (number ops.toList 0) = true) (hS : Stg ops L ((i, o) :: effs) quiet recs) (hR : Real ρ G R0 m0 w0 L s recs R a w) (hst : stable P G ops s recs = true) (hr : i ∈ Region.ready .any ops L)
    (hh : hideB (((CheckFast.beforeF ops).toList[i]?).getD 0) recs s.m.h = some (h, hid)) (hsat : (stepOp P G rec cx ops (s.mem ⟨h, s.m.nx⟩) o K').sat ρ Post) :
    ∃ R' s1 a' w', Stg ops (L.setIfInBounds i true) effs quiet (notBehind (CheckFast.beforeF ops).toList i (((CheckFast.beforeF ops).toList[i]?).getD 0) recs) ∧
      Real ρ G R0 m0 w0 (L.setIfInBounds i true) (s1.mem ⟨showB hid s1.m.h, s1.m.nx⟩) (notBehind (CheckFast.beforeF ops).toList i (((CheckFast.beforeF ops).toList[i]?).getD 0) recs) R' a' w' ∧ (K' s1).sat ρ Post ∧
      Steps P (lone (b.atR a (.inRegion ops (i :: rest) :: k)) cs w) (lone (b.atR a' (.inRegion ops rest :: k)) cs w') := by
  generalize hrc : notBehind (CheckFast.beforeF ops).toList i (((CheckFast.beforeF ops).toList[i]?).getD 0) recs = recs'
  have hmem : ∀ c, c ∈ recs' ↔ c ∈ recs ∧ Nat.testBit (((CheckFast.beforeF ops).toList[i]?).getD 0) c.i = false := fun c => by rw [← hrc]; exact mem_notBehind
  obtain ⟨ho, hef, hl⟩ := hS.effsOk i o (by simp)
  have hcl := clear_ready hown hS hr ho
  obtain ⟨g1, g2, g3⟩ := hideB_spec recs _ _ _ hh
  -- those that are open are apart from the effect
  have hopen : ∀ c ∈ recs, L.getD c.i true = false → c ∈ recs' := by
    intro c hc hcl'
    refine (hmem c).2 ⟨hc, ?_⟩
    cases hb : Nat.testBit (((CheckFast.beforeF ops).toList[i]?).getD 0) c.i with
    | false => rfl
    | true =>
      have := ready_anc hr hS.down hb
      rw [hcl'] at this; cases this
  have hne : ∀ c ∈ recs, c.i ≠ i := by
    intro c hc e
    obtain ⟨p1, p2⟩ := hS.recsOk c hc
    rw [e, ho] at p1; cases p1
    rw [hef] at p2; cases p2
  have hsub : ∀ id x, h.get id = some x → (dels (openIds L recs) s.m.h).get id = some x := by
    intro id x hx
    rw [get_dels, if_neg]
    · exact g1 _ _ hx
    · intro hid'
      obtain ⟨c, hc, h1, h2, h3⟩ := mem_openIds.1 hid'
      have := g3 c hc h2 ((hmem c).1 (hopen c hc h1)).2
      rw [h3, hx] at this; cases this
  have hn : Now ρ G R (OpenT L recs) (s.mem ⟨h, s.m.nx⟩) a w := ⟨hR.now.mem.sub hsub (Nat.le_refl _), hR.now.glob, hR.now.tm, hR.now.marks⟩
  obtain ⟨R', s1, a', w', h1, h2, h3, h4⟩ := stepOp_ok hrec (b := b) (i := i) (rest := rest) (k := k) (cs := cs) ho hsat hn hcl
  have hT : ∀ t, ¬ OpenT (L.setIfInBounds i true) recs' t → ¬ OpenT L recs t := by
    rintro t ht ⟨c, hc, q1, q2⟩
    exact ht ⟨c, hopen c hc q1, setL.2 ⟨hne c hc, q1⟩, q2⟩
  have hI : ∀ id, id ∈ openIds (L.setIfInBounds i true) recs' ↔ id ∈ openIds L recs := by
    intro id
    rw [mem_openIds, mem_openIds]
    constructor
    · rintro ⟨c, hc, q1, q2⟩
      exact ⟨c, ((hmem c).1 hc).1, (setL.1 q1).2, q2⟩
    · rintro ⟨c, hc, q1, q2⟩
      exact ⟨c, hopen c hc q1, setL.2 ⟨hne c hc, q1⟩, q2⟩
  have hover := MemInv.over (m2 := ⟨dels (openIds (L.setIfInBounds i true) recs') (showB hid s1.m.h), s1.m.nx⟩) hR.now.mem hsub h2 h1.mem rfl rfl (fun id x hx => by
    simp only [get_dels] at hx
    split at hx
    · cases hx
    · rename_i hno
      rcases showB_spec hid _ _ _ hx with q | q
      · obtain ⟨q1, c, q2, nk, q3, q4⟩ := g2 id x q
        refine .inr ⟨?_, q1⟩
        show (dels (openIds L recs) s.m.h).get id = some x
        rw [get_dels, if_neg (fun hid' => hno ((hI id).2 hid'))]
        have := (stable_spec hst c q2).2.2 x nk q3
        rw [q4] at this; exact this
      · exact .inl q)
  obtain ⟨o1, o2⟩ := hover
  have hle : R.le R' := h2.le hn.mem
  refine ⟨R', s1, a', w', ⟨by simpa using hS.size, downC_set hr hS.down, fun j hj hlj => ?_, fun j p hp => ?_, fun j p hp => ?_, fun c hc => hS.recsOk c ((hmem c).1 hc).1, ?_, hS.quietNd, fun c hc c' hc' e => hS.recNd c ((hmem c).1 hc).1 c' ((hmem c').1 hc').1 e, fun c hc p => hS.apart c ((hmem c).1 hc).1 p⟩,
    ⟨⟨o1, h1.glob, ⟨h1.tm.1, fun t ht => h1.tm.2 t (hT t ht)⟩, h1.marks⟩, hR.step.trans o2, fun c hc hnew => ?_, fun id hid' => ?_, fun c hc c' hc' => hR.sep c ((hmem c).1 hc).1 c' ((hmem c').1 hc').1⟩, h3, h4⟩
  · obtain ⟨e1, e2⟩ := setL.1 hlj
    rcases hS.cover j hj e2 with ⟨p, q⟩ | q | ⟨c, q, e⟩
    · rcases List.mem_cons.1 q with q | q
      · cases q; exact (e1 rfl).elim
      · exact .inl ⟨p, q⟩
    · exact .inr (.inl q)
    · exact .inr (.inr ⟨c, hopen c q (e ▸ e2), e⟩)
  · obtain ⟨p1, p2, p3⟩ := hS.effsOk j p (by simp [hp])
    refine ⟨p1, p2, setL.2 ⟨fun e => ?_, p3⟩⟩
    have := hS.effsNd
    simp only [List.map_cons, List.nodup_cons] at this
    exact this.1 (List.mem_map.2 ⟨_, hp, e⟩)
  · obtain ⟨p1, p2, p3⟩ := hS.quietOk j p hp
    refine ⟨p1, p2, setL.2 ⟨fun e => ?_, p3⟩⟩
    rw [e, ho] at p1; cases p1
    rw [hef] at p2; cases p2
  · have := hS.effsNd
    simp only [List.map_cons, List.nodup_cons] at this
    exact this.2
  · have := hR.ids c ((hmem c).1 hc).1 hnew
    exact ⟨this.1, Nat.lt_of_lt_of_le this.2 h2.nx⟩
  · have h5 := (hI id).1 hid'
    obtain ⟨c, hc, _, q2, q3⟩ := mem_openIds.1 h5
    have := (hR.ids c hc q2).2
    rw [(h2.ext id (by show id < s.m.nx; omega)).1]
    exact hR.opn id h5

theorem countP_lt {α : Type} (p q : α → Bool) : ∀ (l : List α), (∀ x ∈ l, q x = true → p x = true) → ∀ x ∈ l, p x = true → q x = false → l.countP q < l.countP p
  | [], _, _, hx, _, _ => by simp at hx
  | y :: l, h, x, hx, h1, h2 => by
    have hle : l.countP q ≤ l.countP p := List.countP_mono_left fun z hz => h z (by simp [hz])
    rw [List.countP_cons, List.countP_cons]
    rcases List.mem_cons.1 hx with rfl | hx
    · rw [if_pos h1, h2]; simp; omega
    · have := countP_lt p q l (fun z hz => h z (by simp [hz])) x hx h1 h2
      have hy := h y (by simp)
      cases hq : q y with
      | false => simp; omega
      | true => rw [hy hq]; simp; exact this

/-- All done. -/
theorem Real.whole {R0 R : Rl} {m0 : AM} {w0 w : World} {cx : Cx} {ops : Array Oper} {anc : List Nat} {L : Array Bool} {effs quiet : List (Nat × Oper)} {s : AS} {recs : List Rec} {a : Act} {K : AS → Tree τ} (hS : Stg ops L effs quiet recs) (hR : Real ρ G R0 m0 w0 L s recs R a w)
    (hA : After P G ρ Post rec cx ops anc K quiet s recs effs) (hall : ∀ i, i < ops.size → L.getD i true = true) : Now ρ G R noD s a w ∧ MStep R0 m0 w0 R s.m w ∧ (K s).sat ρ Post := by
  have hlt : ∀ {i o}, ops[i]? = some o → L.getD i true = true := fun {i o} h => hall i (Array.getElem?_eq_some_iff.1 h).1
  have he : effs = [] := by
    cases effs with
    | nil => rfl
    | cons x l =>
      obtain ⟨p1, _, p3⟩ := hS.effsOk x.1 x.2 (by simp)
      rw [hlt p1] at p3; cases p3
  subst he
  have hrl : ∀ c ∈ recs, ¬ L.getD c.i true = false := fun c hc h => by
    rw [hlt (hS.recsOk c hc).1] at h; cases h
  have h0 : openIds L recs = [] := List.eq_nil_iff_forall_not_mem.2 fun id hid => by
    obtain ⟨c, hc, h1, _⟩ := mem_openIds.1 hid
    exact hrl c hc h1
  have hn := hR.now
  have hs := hR.step
  rw [h0] at hn hs
  exact ⟨⟨hn.mem, hn.glob, ⟨hn.tm.1, fun t _ => hn.tm.2 t fun ⟨c, hc, h1, _⟩ => hrl c hc h1⟩, hn.marks⟩, hs, hA.2⟩

theorem drawn_loop (hrec : ∀ j, JOk P G ρ Post rec j) {R0 : Rl} {m0 : AM} {w0 : World} {cx : Cx} {ops : Array Oper} {b : Frame} {k : List Item} {cs : List Frame} {K : AS → Tree τ}
    (hown : ownTmps ops (CheckFast.beforeF ops).toList (number ops.toList 0) = true) (hfwd : fwdAll (number ops.toList 0) = true) : ∀ (fuel t : Nat) (L : Array Bool) (effs quiet : List (Nat × Oper)) (s : AS) (recs : List Rec) (R : Rl) (a : Act) (w : World),
    (List.range ops.size).countP (fun j => !L.getD j true) ≤ fuel → Stg ops L effs quiet recs → Real ρ G R0 m0 w0 L s recs R a w → stable P G ops s recs = true → (∀ x ∈ quiet, Nat.land (((CheckFast.beforeF ops).toList[x.1]?).getD 0) (effBits effs) ≠ 0) →
    After P G ρ Post rec cx ops (CheckFast.beforeF ops).toList K quiet s recs effs →
    ∃ R' s' a' w', Now ρ G R' noD s' a' w' ∧ MStep R0 m0 w0 R' s'.m w' ∧ (K s').sat ρ Post ∧
      Steps P (lone (b.atR a (.inRegion ops (Region.linearise.go .any ops fuel t L []) :: k)) cs w) (lone (b.atR a' k) cs w')
  | 0, t, L, effs, quiet, s, recs, R, a, w, hf, hS, hR, hst, hbl, hA => by
    have hall : ∀ i, i < ops.size → L.getD i true = true := by
      intro i hi
      have := List.countP_eq_zero.1 (Nat.le_zero.1 hf) i (by simpa using hi)
      simpa using this
    obtain ⟨h1, h2, h3⟩ := hR.whole hS hA hall
    exact ⟨R, s, a, w, h1, h2, h3, .one stepR_region_end⟩
  | fuel + 1, t, L, effs, quiet, s, recs, R, a, w, hf, hS, hR, hst, hbl, hA => by
    simp only [Region.linearise.go]
    change ∃ R' s' a' w', Now ρ G R' noD s' a' w' ∧ MStep R0 m0 w0 R' s'.m w' ∧ (K s').sat ρ Post ∧ Steps P (lone (b.atR a (.inRegion ops (match (Region.ready .any ops L)[t % (Region.ready .any ops L).length]? with
      | some i => Region.linearise.go .any ops fuel (t / (Region.ready .any ops L).length) (L.setIfInBounds i true) [i]
      | none => [].reverse) :: k)) cs w) (lone (b.atR a' k) cs w')
    cases hi : (Region.ready .any ops L)[t % (Region.ready .any ops L).length]? with
    | none =>
      have hnil : Region.ready .any ops L = [] := by
        cases hr : Region.ready .any ops L with
        | nil => rfl
        | cons x xs =>
          rw [hr] at hi
          have hlt : t % (x :: xs).length < (x :: xs).length := Nat.mod_lt _ (by simp)
          simp at hi
          simp at hlt
          omega
      obtain ⟨h1, h2, h3⟩ := hR.whole hS hA (ready_some hS.size hfwd hnil)
      exact ⟨R, s, a, w, h1, h2, h3, .one stepR_region_end⟩
    | some i =>
      have hr : i ∈ Region.ready .any ops L := List.mem_of_getElem? hi
      obtain ⟨o, ho, hl, hpre⟩ := ready_spec hr
      have hsz : i < ops.size := (Array.getElem?_eq_some_iff.1 ho).1
      have hf' : (List.range ops.size).countP (fun j => !(L.setIfInBounds i true).getD j true) ≤ fuel := by
        have := countP_lt (fun j => !L.getD j true) (fun j => !(L.setIfInBounds i true).getD j true) (List.range ops.size) (fun j _ hj => by
          have hj' : (L.setIfInBounds i true).getD j true = false := by simpa using hj
          simp [(setL.1 hj').2]) i (by simpa using hsz) (by simp [hl]) (by rw [getD_set, if_pos rfl]; rfl)
        omega
      simp only []
      rw [linearise_go_acc, List.reverse_singleton, List.singleton_append]
      generalize hrest : Region.linearise.go .any ops fuel (t / (Region.ready .any ops L).length) (L.setIfInBounds i true) [] = rest
      rcases hS.cover i hsz hl with ⟨o', q⟩ | ⟨o', q⟩ | ⟨c, q, rfl⟩
      · -- the effect at the head
        obtain ⟨p1, p2, p3⟩ := hS.effsOk i o' q
        cases effs with
        | nil => simp at q
        | cons x effs =>
          obtain ⟨i0, o0⟩ := x
          obtain ⟨hab, h, hid, hh, hsat⟩ := hA
          have e : i0 = i ∧ o0 = o' := by
            rcases List.mem_cons.1 q with q | q
            · cases q; exact ⟨rfl, rfl⟩
            · exfalso
              have h1 := ready_anc hr hS.down (allBehind_spec hab i o' q)
              rw [(hS.effsOk i0 o0 (by simp)).2.2] at h1; cases h1
          obtain ⟨rfl, rfl⟩ := e
          obtain ⟨R1, s1, a1, w1, g1, g2, g3, g4⟩ := head_step hrec (b := b) (rest := rest) (k := k) (cs := cs) hown hS hR hst hr hh hsat
          obtain ⟨s2, recs2, quiet2, e1, e2, e3⟩ := drawnGo_after g3
          obtain ⟨f1, f2, f3⟩ := eager_ok quiet _ _ [] e1 (by simpa using g1) g2 (fun x hx => by simp at hx)
          obtain ⟨R3, s3, a3, w3, d1, d2, d3, d4⟩ := drawn_loop hrec hown hfwd fuel (t / (Region.ready .any ops L).length) _ effs quiet2 s2 recs2 R1 a1 w1 hf' f1 f2 e2 f3 e3
          rw [hrest] at d4
          exact ⟨R3, s3, a3, w3, d1, d2, d3, g4.trans d4⟩
      · exfalso
        have h1 := hbl _ q
        obtain ⟨j, hj⟩ := Nat.exists_testBit_of_ne_zero h1
        have hj' : ((((CheckFast.beforeF ops).toList[i]?).getD 0) &&& effBits effs).testBit j = true := hj
        rw [Nat.testBit_and, Bool.and_eq_true] at hj'
        obtain ⟨p, hp⟩ := effBits_spec effs j hj'.2
        have h2 := ready_anc hr hS.down hj'.1
        rw [(hS.effsOk j p hp).2.2] at h2; cases h2
      · obtain ⟨R1, a1, w1, g1, g2⟩ := rec_step (b := b) (rest := rest) (k := k) (cs := cs) hown hS hR hst q hr
        obtain ⟨R3, s3, a3, w3, d1, d2, d3, d4⟩ := drawn_loop hrec hown hfwd fuel (t / (Region.ready .any ops L).length) _ effs quiet s recs R1 a1 w1 hf' (hS.listed hr q) g1 hst hbl hA
        rw [hrest] at d4
        exact ⟨R3, s3, a3, w3, d1, d2, d3, g2.trans d4⟩

theorem drawn_ok (hrec : ∀ j, JOk P G ρ Post rec j) (hmix : P.follows .mixedOrders = true) {cx : Cx} {ops : Array Oper} {s : AS} {K : AS → Tree τ} {R : Rl} {a : Act} {w : World} {b : Frame} {k : List Item} {cs : List Frame} {id : Nat} (hsat : (drawn P G rec cx ops s K).sat ρ Post) (hn : Now ρ G R noD s a w) :
    ∃ R' s' a' w', Now ρ G R' noD s' a' w' ∧ MStep R s.m w R' s'.m w' ∧ (K s').sat ρ Post ∧
      Steps P (lone (b.atR a (.code (.region id ops true) :: k)) cs w) (lone (b.atR a' k) cs w') := by
  unfold drawn at hsat
  simp only at hsat
  split at hsat
  · rename_i hchk
    rw [Bool.and_eq_true] at hchk
    obtain ⟨hown, hfwd⟩ := hchk
    obtain ⟨s1, recs1, quiet1, e1, e2, e3⟩ := drawnGo_after hsat
    have hrep : ∀ j, (Array.replicate ops.size false).getD j true = false ↔ j < ops.size := by
      intro j
      rw [Array.getD_eq_getD_getElem?, Array.getElem?_replicate]
      split
      · rename_i h; simp [h]
      · rename_i h; simp [h]
    have hnum : ∀ {j o}, (j, o) ∈ number ops.toList 0 ↔ ops[j]? = some o := fun {j o} => by
      rw [number_spec]; simp
    have hlt : ∀ {j o}, ops[j]? = some o → j < ops.size := fun {j o} h => (Array.getElem?_eq_some_iff.1 h).1
    have hS : Stg ops (Array.replicate ops.size false) ((number ops.toList 0).filter fun x => isEffD x.2.op) ((number ops.toList 0).filter fun x => !isEffD x.2.op) [] := by
      refine ⟨by simp, fun j o e hj ho => ?_, fun j hj _ => ?_, fun j o hj => ?_, fun j o hj => ?_, fun c hc => by simp at hc, ?_, ?_, fun c hc => by simp at hc, fun c hc => by simp at hc⟩
      · rw [(hrep j).2 (hlt ho)] at hj; cases hj
      · have ho : ops[j]? = some ops[j] := Array.getElem?_eq_getElem hj
        cases hq : isEffD ops[j].op with
        | true => exact .inl ⟨ops[j], List.mem_filter.2 ⟨hnum.2 ho, hq⟩⟩
        | false => exact .inr (.inl ⟨ops[j], List.mem_filter.2 ⟨hnum.2 ho, by simp [hq]⟩⟩)
      · obtain ⟨h1, h2⟩ := List.mem_filter.1 hj
        exact ⟨hnum.1 h1, h2, (hrep j).2 (hlt (hnum.1 h1))⟩
      · obtain ⟨h1, h2⟩ := List.mem_filter.1 hj
        exact ⟨hnum.1 h1, by simpa using h2, (hrep j).2 (hlt (hnum.1 h1))⟩
      · exact (number_nodup ops.toList 0).sublist ((List.filter_sublist).map _)
      · exact (number_nodup ops.toList 0).sublist ((List.filter_sublist).map _)
    have hR : Real ρ G R s.m w (Array.replicate ops.size false) s [] R a { w with drawn := w.drawn + 1 } := by
      refine ⟨⟨hn.mem.heap rfl, hn.glob, ⟨hn.tm.1, fun t _ => hn.tm.2 t fun h => h⟩, hn.marks⟩, MStep.heap R s.m rfl ⟨rfl, rfl, rfl⟩, fun c hc => by simp at hc, fun c hc => by simp [openIds] at hc, fun c hc => by simp at hc⟩
    obtain ⟨f1, f2, f3⟩ := eager_ok _ _ _ [] e1 (by simpa using hS) hR (fun x hx => by simp at hx)
    obtain ⟨R3, s3, a3, w3, d1, d2, d3, d4⟩ := drawn_loop hrec (b := b) (k := k) (cs := cs) hown hfwd ops.size (w.tape w.drawn (.order b.fn id)) _ _ quiet1 s1 recs1 R a _ (Nat.le_trans List.countP_le_length (by simp)) f1 f2 e2 f3 e3
    refine ⟨R3, s3, a3, w3, d1, d2, d3, .head (stepR_region_draw) ?_⟩
    simp only [Region.schedule, hmix, Bool.true_or, if_true]
    exact d4
  · exact hsat.elim
end
end Go.Sx
