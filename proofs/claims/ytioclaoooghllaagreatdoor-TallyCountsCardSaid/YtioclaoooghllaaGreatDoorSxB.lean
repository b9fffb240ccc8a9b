/-
  The abstract executor, part B: abstract memory, what it stands for, and how it steps.
  No condition: definitions and plain lemmas on them.
-/
import Derived.Test.YtioclaoooghllaaGreatDoorSxA
import Derived.RangeFuncRecord
import Derived.RangeFuncNested
import Derived.Laws.Cells
import Derived.MapKept
namespace Go.Sx

/-- None of the first n cells is frozen. -/
def NoFrz (n : Nat) (fr : Nat × Nat) : Prop := ∀ i, i < n → ¬ (fr.1 ≤ i ∧ i < fr.2)

inductive ABlk where
  | cells (elem : TypeId) (vs : List AVal) (wr : Bool)
  | grow (elem : TypeId) (vs : List AVal) (esz : Nat)
  | map (es : List (AVal × AVal))
  | loop (state : LoopState) (pending : Option Code) (fn : FuncId) (nt : Nat) (tm : Tr AVal) (params : List Tmp) (assign body : Code) (defers : Nat)
  | deferred
  | strIter (s : SE) (pos : Nat)

def ABlk.wr : ABlk → Bool
  | .cells _ _ wr => wr
  | _ => true

def tmv (tm : Tr AVal) (t : Nat) : AVal := match tm.get t with | some v => v | none => AVal.undef

def TmRel (ρ : Env) (R : Rl) (nt : Nat) (tm : Tr AVal) (tmps : Array Value) : Prop :=
  tmps.size = nt ∧ ∀ t, VRel ρ R (tmv tm t) (tmps.getD t Go.undef)

def ERel (ρ : Env) (R : Rl) : List (AVal × AVal) → List MapEntry → Prop
  | [], es => es = []
  | x :: xs, es => ∃ e es', es = e :: es' ∧ VRel ρ R x.1 e.key ∧ VRel ρ R x.2 e.val ∧ ERel ρ R xs es'

def BRel (ρ : Env) (R : Rl) (id : Nat) : ABlk → Obj → Prop
  | .cells elem vs wr, o => ∃ c fr, o = .cells c elem fr ∧ VRels ρ R vs c.toList ∧ (wr = true → NoFrz c.size fr)
  | .grow elem vs esz, o => ∃ c fr pre rest, o = .cells c elem fr ∧ c.toList = pre ++ rest ∧ VRels ρ R vs pre ∧ c.size = R.cap id * esz ∧ NoFrz c.size fr
  | .map es, o => ∃ a clk, o = .map a clk ∧ ERel ρ R es a.toList ∧ MapKept.Stamped a clk
  | .loop st pe fn nt tm ps as bd df, o => ∃ l : Loop, o = .loop l ∧ l.state = st ∧ l.pending = pe ∧ l.fn = fn ∧ TmRel ρ R nt tm l.tmps ∧ l.params.toList = ps ∧ l.assign = as ∧ l.body = bd ∧ R.blk df = some l.defers
  | .deferred, o => o = .deferred (some [])
  | .strIter s pos, o => o = .stringIter (s.dens ρ) pos

theorem ERel.mono {ρ : Env} {R R' : Rl} (h : R.le R') : ∀ {xs : List (AVal × AVal)} {es : List MapEntry}, ERel ρ R xs es → ERel ρ R' xs es
  | [], _, e => e
  | _ :: _, _, ⟨e, es', e1, h1, h2, h3⟩ => ⟨e, es', e1, VRel.mono h _ _ h1, VRel.mono h _ _ h2, ERel.mono h h3⟩
theorem TmRel.mono {ρ : Env} {R R' : Rl} (h : R.le R') {nt : Nat} {tm : Tr AVal} {tmps : Array Value} (e : TmRel ρ R nt tm tmps) : TmRel ρ R' nt tm tmps :=
  ⟨e.1, fun t => VRel.mono h _ _ (e.2 t)⟩
theorem BRel.mono {ρ : Env} {R R' : Rl} {id b : Nat} (h : R.le R') (hb : R.blk id = some b) : ∀ {x : ABlk} {o : Obj}, BRel ρ R id x o → BRel ρ R' id x o
  | .cells _ _ _, _, ⟨c, fr, e, h1, h2⟩ => ⟨c, fr, e, VRels.mono h _ _ h1, h2⟩
  | .grow _ _ _, _, ⟨c, fr, pre, rest, e, h0, h1, h2, h3⟩ => ⟨c, fr, pre, rest, e, h0, VRels.mono h _ _ h1, by rw [(h _ _ hb).2]; exact h2, h3⟩
  | .map _, _, ⟨a, clk, e, h1, h2⟩ => ⟨a, clk, e, ERel.mono h h1, h2⟩
  | .loop .., _, ⟨l, e, h1, h2, h3, h4, h5, h6, h7, h8⟩ => ⟨l, e, h1, h2, h3, h4.mono h, h5, h6, h7, (h _ _ h8).1⟩
  | .deferred, _, e => e
  | .strIter _ _, _, e => e

/-! ### Memory -/
structure AM where
  h : Tr ABlk
  nx : Nat

structure MemInv (ρ : Env) (R : Rl) (m : AM) (w : World) : Prop where
  rel : ∀ id x, m.h.get id = some x → ∃ b o, R.blk id = some b ∧ w.heap[b]? = some o ∧ BRel ρ R id x o
  inj : ∀ id id' x x' b, m.h.get id = some x → m.h.get id' = some x' → R.blk id = some b → R.blk id' = some b → id = id'
  fresh : ∀ id, m.nx ≤ id → R.blk id = none

/-- From (R, m, w) to (R', m', w'): what was stands for what it stood for; only blocks that m may write have turned. -/
structure MStep (R : Rl) (m : AM) (w : World) (R' : Rl) (m' : AM) (w' : World) : Prop where
  ext : ∀ id, id < m.nx → R'.blk id = R.blk id ∧ R'.cap id = R.cap id
  nx : m.nx ≤ m'.nx
  size : w.heap.size ≤ w'.heap.size
  frame : ∀ b, b < w.heap.size → (∀ id x, m.h.get id = some x → x.wr = true → R.blk id ≠ some b) → w'.heap[b]? = w.heap[b]?
  live : ∀ id x b, m'.h.get id = some x → R'.blk id = some b → w.heap.size ≤ b ∨ ∃ id0 x0, m.h.get id0 = some x0 ∧ (x.wr = true → x0.wr = true) ∧ R.blk id0 = some b
  os : w'.os = w.os
  tape : w'.tape = w.tape
  output : w'.output = w.output

theorem MStep.refl (R : Rl) (m : AM) (w : World) : MStep R m w R m w :=
  ⟨fun _ _ => ⟨rfl, rfl⟩, Nat.le_refl _, Nat.le_refl _, fun _ _ _ => rfl, fun id x _ hx hb => .inr ⟨id, x, hx, id', hb⟩, rfl, rfl, rfl⟩
  where id' {p : Prop} (h : p) : p := h

theorem MStep.trans {R R' R'' : Rl} {m m' m'' : AM} {w w' w'' : World} (h : MStep R m w R' m' w') (h' : MStep R' m' w' R'' m'' w'') : MStep R m w R'' m'' w'' where
  ext id hid := by
    obtain ⟨a, b⟩ := h.ext id hid
    obtain ⟨c, d⟩ := h'.ext id (Nat.lt_of_lt_of_le hid h.nx)
    exact ⟨c.trans a, d.trans b⟩
  nx := Nat.le_trans h.nx h'.nx
  size := Nat.le_trans h.size h'.size
  frame b hb hno := by
    rw [h'.frame b (Nat.lt_of_lt_of_le hb h.size), h.frame b hb hno]
    intro id x hx hw e
    rcases h.live id x b hx e with hl | ⟨id0, x0, hx0, hw0, e0⟩
    · omega
    · exact hno id0 x0 hx0 (hw0 hw) e0
  live id x b hx e := by
    rcases h'.live id x b hx e with hl | ⟨id0, x0, hx0, hw0, e0⟩
    · exact .inl (Nat.le_trans h.size hl)
    · rcases h.live id0 x0 b hx0 e0 with hl | ⟨id1, x1, hx1, hw1, e1⟩
      · exact .inl hl
      · exact .inr ⟨id1, x1, hx1, fun hw => hw1 (hw0 hw), e1⟩
  os := h'.os.trans h.os
  tape := h'.tape.trans h.tape
  output := h'.output.trans h.output

theorem MStep.le {ρ : Env} {R R' : Rl} {m m' : AM} {w w' : World} (h : MStep R m w R' m' w') (hi : MemInv ρ R m w) : R.le R' := by
  intro id b hb
  have hid : id < m.nx := by
    rcases Nat.lt_or_ge id m.nx with h1 | h1
    · exact h1
    · rw [hi.fresh id h1] at hb; cases hb
  obtain ⟨h1, h2⟩ := h.ext id hid
  exact ⟨h1.trans hb, h2⟩

/-- The world's parts but its heap and its count of draws. -/
structure SameRest (w w' : World) : Prop where
  os : w'.os = w.os
  tape : w'.tape = w.tape
  output : w'.output = w.output
theorem SameRest.refl (w : World) : SameRest w w := ⟨rfl, rfl, rfl⟩

/-- A draw. -/
theorem MemInv.heap {ρ : Env} {R : Rl} {m : AM} {w w' : World} (h : MemInv ρ R m w) (e : w'.heap = w.heap) : MemInv ρ R m w' :=
  ⟨fun id x hx => by rw [e]; exact h.rel id x hx, h.inj, h.fresh⟩
theorem MStep.heap (R : Rl) (m : AM) {w w' : World} (e : w'.heap = w.heap) (s : SameRest w w') : MStep R m w R m w' :=
  ⟨fun _ _ => ⟨rfl, rfl⟩, Nat.le_refl _, by rw [e]; exact Nat.le_refl _, fun _ _ _ => by rw [e], fun id x _ hx hb => .inr ⟨id, x, hx, fun h => h, hb⟩, s.os, s.tape, s.output⟩

/-! ### A new block -/
def AM.push (m : AM) (x : ABlk) : AM := ⟨m.h.set m.nx x, m.nx + 1⟩
def Rl.push (R : Rl) (id b c : Nat) : Rl := ⟨fun j => if j = id then some b else R.blk j, fun j => if j = id then c else R.cap j⟩
theorem Rl.push_blk (R : Rl) (id b c : Nat) : (R.push id b c).blk id = some b := by simp [Rl.push]
theorem Rl.push_cap (R : Rl) (id b c : Nat) : (R.push id b c).cap id = c := by simp [Rl.push]
theorem Rl.push_ne (R : Rl) {id j : Nat} (b c : Nat) (h : j ≠ id) : (R.push id b c).blk j = R.blk j ∧ (R.push id b c).cap j = R.cap j := by simp [Rl.push, h]
theorem Rl.push_le {R : Rl} {id : Nat} (b c : Nat) (h : R.blk id = none) : R.le (R.push id b c) := by
  intro j b' hj
  have : j ≠ id := fun e => by subst e; rw [h] at hj; cases hj
  obtain ⟨h1, h2⟩ := Rl.push_ne R b c this
  exact ⟨h1.trans hj, h2⟩

theorem MemInv.push {ρ : Env} {R : Rl} {m : AM} {w w' : World} (hi : MemInv ρ R m w) {x : ABlk} {o : Obj} (c : Nat) (hh : w'.heap = w.heap.push o)
    (ho : BRel ρ (R.push m.nx w.heap.size c) m.nx x o) : MemInv ρ (R.push m.nx w.heap.size c) (m.push x) w' := by
  have hle : R.le (R.push m.nx w.heap.size c) := Rl.push_le _ _ (hi.fresh _ (Nat.le_refl _))
  have hlt : ∀ id x b, m.h.get id = some x → R.blk id = some b → id ≠ m.nx ∧ b < w.heap.size := by
    intro id x b hx hb
    refine And.intro (fun e => (by subst e; rw [hi.fresh _ (Nat.le_refl _)] at hb; cases hb)) ?_
    obtain ⟨b', o', hb', ho', _⟩ := hi.rel id x hx
    rw [hb] at hb'; cases hb'
    exact (Array.getElem?_eq_some_iff.1 ho').1
  refine ⟨?_, ?_, ?_⟩
  · intro id y hy
    simp only [AM.push, Tr.get_set] at hy
    by_cases e : id = m.nx
    · rw [if_pos e] at hy
      cases hy; subst e
      exact ⟨w.heap.size, o, Rl.push_blk _ _ _ _, by rw [hh]; simp, ho⟩
    · rw [if_neg e] at hy
      obtain ⟨b, o', hb, ho', hr⟩ := hi.rel id y hy
      obtain ⟨_, hbl⟩ := hlt id y b hy hb
      refine ⟨b, o', (hle _ _ hb).1, ?_, hr.mono hle hb⟩
      rw [hh, Array.getElem?_push, if_neg (by omega)]; exact ho'
  · intro id id' y y' b hy hy' hb hb'
    simp only [AM.push, Tr.get_set] at hy hy'
    by_cases e : id = m.nx
    · by_cases e' : id' = m.nx
      · omega
      · rw [if_neg e'] at hy'
        rw [(Rl.push_ne R _ _ e').1] at hb'
        have := (hlt id' y' b hy' hb').2
        subst e; rw [Rl.push_blk] at hb; cases hb; omega
    · rw [if_neg e] at hy
      rw [(Rl.push_ne R _ _ e).1] at hb
      by_cases e' : id' = m.nx
      · have := (hlt id y b hy hb).2
        subst e'; rw [Rl.push_blk] at hb'; cases hb'; omega
      · rw [if_neg e'] at hy'
        rw [(Rl.push_ne R _ _ e').1] at hb'
        exact hi.inj id id' y y' b hy hy' hb hb'
  · intro id hid
    simp only [AM.push] at hid
    rw [(Rl.push_ne R _ _ (by omega)).1]
    exact hi.fresh id (by omega)

theorem MStep.push {R : Rl} {m : AM} {w w' : World} (x : ABlk) {o : Obj} (c : Nat) (hh : w'.heap = w.heap.push o) (s : SameRest w w') :
    MStep R m w (R.push m.nx w.heap.size c) (m.push x) w' where
  ext id hid := Rl.push_ne R _ _ (by omega)
  nx := by simp [AM.push]
  size := by rw [hh]; simp
  frame b hb _ := by rw [hh, Array.getElem?_push, if_neg (by omega)]
  live id y b hy hb := by
    simp only [AM.push, Tr.get_set] at hy
    by_cases e : id = m.nx
    · subst e; rw [Rl.push_blk] at hb; cases hb; exact .inl (Nat.le_refl _)
    · rw [if_neg e] at hy
      rw [(Rl.push_ne R _ _ e).1] at hb
      exact .inr ⟨id, y, hy, fun h => h, hb⟩
  os := s.os
  tape := s.tape
  output := s.output

/-! ### A block turned in place -/
def AM.upd (m : AM) (id : Nat) (x : ABlk) : AM := ⟨m.h.set id x, m.nx⟩

theorem putObj_rest (w : World) (b : Nat) (o : Obj) : SameRest w (w.putObj b o) := ⟨rfl, rfl, rfl⟩

theorem MemInv.upd {ρ : Env} {R : Rl} {m : AM} {w : World} (hi : MemInv ρ R m w) {id b : Nat} {x y : ABlk} (hx : m.h.get id = some x) (hb : R.blk id = some b) {o : Obj}
    (ho : BRel ρ R id y o) : MemInv ρ R (m.upd id y) (w.putObj b o) := by
  have hbl : b < w.heap.size := by
    obtain ⟨b', o', hb', ho', _⟩ := hi.rel id x hx
    rw [hb] at hb'; cases hb'
    exact (Array.getElem?_eq_some_iff.1 ho').1
  have hin : ∀ j z, (m.upd id y).h.get j = some z → ∃ z', m.h.get j = some z' := by
    intro j z hz
    simp only [AM.upd, Tr.get_set] at hz
    by_cases e : j = id
    · subst e; exact ⟨x, hx⟩
    · rw [if_neg e] at hz; exact ⟨z, hz⟩
  refine ⟨?_, ?_, hi.fresh⟩
  · intro j z hz
    simp only [AM.upd, Tr.get_set] at hz
    by_cases e : j = id
    · rw [if_pos e] at hz; cases hz; subst e
      exact ⟨b, o, hb, World.putObj_heap_same hbl, ho⟩
    · rw [if_neg e] at hz
      obtain ⟨b', o', hb', ho', hr⟩ := hi.rel j z hz
      refine ⟨b', o', hb', ?_, hr⟩
      rw [World.putObj_heap_other (fun e' => e (hi.inj j id z x b hz hx (by rw [hb', e']) hb))]
      exact ho'
  · intro j j' z z' c hz hz' hc hc'
    obtain ⟨u, hu⟩ := hin j z hz
    obtain ⟨u', hu'⟩ := hin j' z' hz'
    exact hi.inj j j' u u' c hu hu' hc hc'

theorem MStep.upd {R : Rl} {m : AM} {w : World} {id b : Nat} {x : ABlk} (y : ABlk) (hx : m.h.get id = some x) (hwr : x.wr = true) (hb : R.blk id = some b) (o : Obj) :
    MStep R m w R (m.upd id y) (w.putObj b o) where
  ext _ _ := ⟨rfl, rfl⟩
  nx := Nat.le_refl _
  size := by simp
  frame b' hb' hno := World.putObj_heap_other (fun e => hno id x hx hwr (e ▸ hb))
  live j z c hz hc := by
    simp only [AM.upd, Tr.get_set] at hz
    by_cases e : j = id
    · subst e; exact .inr ⟨j, x, hx, fun _ => hwr, hc⟩
    · rw [if_neg e] at hz; exact .inr ⟨j, z, hz, fun h => h, hc⟩
  os := rfl
  tape := rfl
  output := rfl

/-! ### A block forgotten, and a block known under a new id -/
def AM.drop (m : AM) (id : Nat) : AM := ⟨m.h.del id, m.nx⟩
theorem MemInv.drop {ρ : Env} {R : Rl} {m : AM} {w : World} (hi : MemInv ρ R m w) (id : Nat) : MemInv ρ R (m.drop id) w := by
  have hin : ∀ j z, (m.drop id).h.get j = some z → m.h.get j = some z := by
    intro j z hz
    simp only [AM.drop, Tr.get_del] at hz
    by_cases e : j = id
    · rw [if_pos e] at hz; cases hz
    · rwa [if_neg e] at hz
  exact ⟨fun j z hz => hi.rel j z (hin j z hz), fun j j' z z' c hz hz' => hi.inj j j' z z' c (hin j z hz) (hin j' z' hz'), hi.fresh⟩
theorem MStep.drop (R : Rl) (m : AM) (w : World) (id : Nat) : MStep R m w R (m.drop id) w where
  ext _ _ := ⟨rfl, rfl⟩
  nx := Nat.le_refl _
  size := Nat.le_refl _
  frame _ _ _ := rfl
  live j z c hz hc := by
    simp only [AM.drop, Tr.get_del] at hz
    by_cases e : j = id
    · rw [if_pos e] at hz; cases hz
    · rw [if_neg e] at hz; exact .inr ⟨j, z, hz, fun h => h, hc⟩
  os := rfl
  tape := rfl
  output := rfl

/-- The live block id, forgotten under id and known under a new one, with new content. -/
theorem MemInv.rekey {ρ : Env} {R : Rl} {m : AM} {w : World} (hi : MemInv ρ R m w) {id b : Nat} {x y : ABlk} (hx : m.h.get id = some x) (hb : R.blk id = some b) {o : Obj} (c : Nat)
    (ho : BRel ρ (R.push m.nx b c) m.nx y o) : MemInv ρ (R.push m.nx b c) ((m.drop id).push y) (w.putObj b o) := by
  have hle : R.le (R.push m.nx b c) := Rl.push_le _ _ (hi.fresh _ (Nat.le_refl _))
  have hbl : b < w.heap.size := by
    obtain ⟨b', o', hb', ho', _⟩ := hi.rel id x hx
    rw [hb] at hb'; cases hb'
    exact (Array.getElem?_eq_some_iff.1 ho').1
  have hin : ∀ j z, ((m.drop id).push y).h.get j = some z → (j = m.nx ∧ z = y) ∨ (j ≠ m.nx ∧ j ≠ id ∧ m.h.get j = some z) := by
    intro j z hz
    simp only [AM.push, AM.drop, Tr.get_set, Tr.get_del] at hz
    by_cases e : j = m.nx
    · rw [if_pos e] at hz; cases hz; exact .inl ⟨e, rfl⟩
    · rw [if_neg e] at hz
      by_cases e' : j = id
      · rw [if_pos e'] at hz; cases hz
      · rw [if_neg e'] at hz; exact .inr ⟨e, e', hz⟩
  refine ⟨?_, ?_, ?_⟩
  · intro j z hz
    rcases hin j z hz with ⟨rfl, rfl⟩ | ⟨e, e', hz'⟩
    · exact ⟨b, o, Rl.push_blk _ _ _ _, World.putObj_heap_same hbl, ho⟩
    · obtain ⟨b', o', hb', ho', hr⟩ := hi.rel j z hz'
      refine ⟨b', o', (hle _ _ hb').1, ?_, hr.mono hle hb'⟩
      rw [World.putObj_heap_other (fun e'' => e' (hi.inj j id z x b hz' hx (by rw [hb', e'']) hb))]
      exact ho'
  · intro j j' z z' d hz hz' hd hd'
    rcases hin j z hz with ⟨rfl, rfl⟩ | ⟨e, e', hz1⟩ <;> rcases hin j' z' hz' with ⟨rfl, rfl⟩ | ⟨f, f', hz2⟩
    · rfl
    · rw [Rl.push_blk] at hd; cases hd
      rw [(Rl.push_ne R _ _ f).1] at hd'
      exact absurd (hi.inj j' id z' x b hz2 hx hd' hb) f'
    · rw [Rl.push_blk] at hd'; cases hd'
      rw [(Rl.push_ne R _ _ e).1] at hd
      exact absurd (hi.inj j id z x b hz1 hx hd hb) e'
    · rw [(Rl.push_ne R _ _ e).1] at hd
      rw [(Rl.push_ne R _ _ f).1] at hd'
      exact hi.inj j j' z z' d hz1 hz2 hd hd'
  · intro j hj
    simp only [AM.push, AM.drop] at hj
    rw [(Rl.push_ne R _ _ (by omega)).1]
    exact hi.fresh j (by omega)
theorem MStep.rekey {R : Rl} {m : AM} {w : World} {id b : Nat} {x : ABlk} (y : ABlk) (hx : m.h.get id = some x) (hwr : x.wr = true) (hb : R.blk id = some b) (o : Obj) (c : Nat) :
    MStep R m w (R.push m.nx b c) ((m.drop id).push y) (w.putObj b o) where
  ext j hj := Rl.push_ne R _ _ (by omega)
  nx := by simp [AM.push, AM.drop]
  size := by simp
  frame b' hb' hno := World.putObj_heap_other (fun e => hno id x hx hwr (e ▸ hb))
  live j z d hz hd := by
    simp only [AM.push, AM.drop, Tr.get_set, Tr.get_del] at hz
    by_cases e : j = m.nx
    · subst e; rw [Rl.push_blk] at hd; cases hd
      exact .inr ⟨id, x, hx, fun _ => hwr, hb⟩
    · rw [if_neg e] at hz
      rw [(Rl.push_ne R _ _ e).1] at hd
      by_cases e' : j = id
      · rw [if_pos e'] at hz; cases hz
      · rw [if_neg e'] at hz; exact .inr ⟨j, z, hz, fun h => h, hd⟩
  os := rfl
  tape := rfl
  output := rfl

/-! ### Cells read and written -/
/-- What is known of a block's cells. -/
def ABlk.vals : ABlk → Option (List AVal)
  | .cells _ vs _ => some vs
  | .grow _ vs _ => some vs
  | _ => none

theorem BRel.vals {ρ : Env} {R : Rl} {id : Nat} {x : ABlk} {o : Obj} {vs : List AVal} (h : BRel ρ R id x o) (hv : x.vals = some vs) :
    ∃ c t fr pre rest, o = .cells c t fr ∧ c.toList = pre ++ rest ∧ VRels ρ R vs pre := by
  cases x with
  | cells t ws wr =>
    simp only [ABlk.vals, Option.some.injEq] at hv; subst hv
    obtain ⟨c, fr, e, h1, _⟩ := h
    exact ⟨c, t, fr, c.toList, [], e, by simp, h1⟩
  | grow t ws n =>
    simp only [ABlk.vals, Option.some.injEq] at hv; subst hv
    obtain ⟨c, fr, pre, rest, e, h0, h1, _, _⟩ := h
    exact ⟨c, t, fr, pre, rest, e, h0, h1⟩
  | _ => simp [ABlk.vals] at hv

theorem add_mk (b off n : Nat) : (⟨b, off, none⟩ : Addr).add n = ⟨b, off + n, none⟩ := by unfold Addr.add; split <;> simp_all

def segL (vs : List AVal) (off n : Nat) : Option (List AVal) :=
  let l := (vs.drop off).take n
  match Nat.beq l.length n with | true => some l | false => none

theorem segL_some {vs l : List AVal} {off n : Nat} (h : segL vs off n = some l) : l = (vs.drop off).take n ∧ l.length = n := by
  unfold segL at h
  simp only at h
  split at h
  · rename_i e
    cases h
    exact ⟨rfl, Nat.eq_of_beq_eq_true e⟩
  · cases h

theorem cell_of_heap {w : World} {b : Nat} {c : Array Value} {t : TypeId} {fr : Nat × Nat} (h : w.heap[b]? = some (.cells c t fr)) (i : Nat) : w.cell? ⟨b, i, none⟩ = c[i]? := by
  simp [World.cell?, h]
theorem frozen_of_heap {w : World} {b : Nat} {c : Array Value} {t : TypeId} {fr : Nat × Nat} (h : w.heap[b]? = some (.cells c t fr)) (i : Nat) : w.frozen? ⟨b, i, none⟩ = (decide (fr.1 ≤ i) && decide (i < fr.2)) := by
  obtain ⟨lo, hi⟩ := fr
  simp [World.frozen?, h]

theorem run_loadSeg {ρ : Env} {R : Rl} {P : Program} {w : World} {b : Nat} {o : Obj} {id : Nat} {x : ABlk} {vs l : List AVal} {off n : Nat} (hb : w.heap[b]? = some o) (hr : BRel ρ R id x o) (hv : x.vals = some vs)
    (hl : segL vs off n = some l) : ∃ us : List Value, (loadCells ⟨b, off, none⟩ n).run P w = .ok us.toArray w ∧ VRels ρ R l us := by
  obtain ⟨c, t, fr, pre, rest, rfl, hc, hp⟩ := hr.vals hv
  obtain ⟨rfl, hlen⟩ := segL_some hl
  have h1 : VRels ρ R ((vs.drop off).take n) ((pre.drop off).take n) := (hp.drop off).take n
  refine ⟨(pre.drop off).take n, ?_, h1⟩
  have hln : ((pre.drop off).take n).length = n := by rw [h1.length, hlen]
  have := run_loadCells_list (P := P) w ⟨b, off, none⟩ ((pre.drop off).take n) ?_
  · rw [hln] at this; exact this
  · intro j v hj
    rw [add_mk, cell_of_heap hb]
    rw [List.getElem?_take] at hj
    split at hj
    · rw [List.getElem?_drop] at hj
      rw [← Array.getElem?_toList, hc, List.getElem?_append_left (List.getElem?_eq_some_iff.1 hj).1]; exact hj
    · cases hj

theorem run_load1 {ρ : Env} {R : Rl} {P : Program} {w : World} {b : Nat} {o : Obj} {id : Nat} {x : ABlk} {vs : List AVal} {v : AVal} {off : Nat} (hb : w.heap[b]? = some o) (hr : BRel ρ R id x o) (hv : x.vals = some vs)
    (hl : vs[off]? = some v) : ∃ u : Value, (load ⟨b, off, none⟩).run P w = .ok u w ∧ VRel ρ R v u := by
  obtain ⟨c, t, fr, pre, rest, rfl, hc, hp⟩ := hr.vals hv
  obtain ⟨u, hu, hvu⟩ := hp.get hl
  refine ⟨u, ?_, hvu⟩
  have : w.cell? ⟨b, off, none⟩ = some u := by
    rw [cell_of_heap hb, ← Array.getElem?_toList, hc, List.getElem?_append_left (List.getElem?_eq_some_iff.1 hu).1]; exact hu
  simp [load, Sem.run, this]

def spliceL {α : Type} (l : List α) (off : Nat) (xs : List α) : List α := l.take off ++ xs ++ l.drop (off + xs.length)

theorem spliceL_nil {α : Type} (l : List α) (off : Nat) : spliceL l off [] = l := by simp [spliceL]
theorem spliceL_length {α : Type} {l xs : List α} {off : Nat} (h : off + xs.length ≤ l.length) : (spliceL l off xs).length = l.length := by simp [spliceL]; omega
theorem set_splice {α : Type} (l : List α) (off : Nat) (x : α) (xs : List α) (h : off + (x :: xs).length ≤ l.length) : spliceL (l.set off x) (off + 1) xs = spliceL l off (x :: xs) := by
  simp only [List.length_cons] at h
  unfold spliceL
  have h1 : (l.set off x).take (off + 1) = l.take off ++ [x] := by
    have e : l.set off x = l.take off ++ x :: l.drop (off + 1) := by
      rw [List.set_eq_take_append_cons_drop, if_pos (by omega)]
    rw [e]
    rw [List.take_append, List.take_of_length_le (by simp; omega)]
    have : off + 1 - (List.take off l).length = 1 := by simp; omega
    rw [this]; simp
  have h2 : (l.set off x).drop (off + 1 + xs.length) = l.drop (off + (x :: xs).length) := by
    apply List.ext_getElem?
    intro j
    simp only [List.getElem?_drop, List.getElem?_set, List.length_cons]
    rw [if_neg (by omega)]
    congr 1; omega
  rw [h1, h2]; simp

theorem setCell_put (w : World) (b : Nat) (c : Array Value) (t : TypeId) (fr : Nat × Nat) (k : Nat) (v : Value) (h : w.heap[b]? = some (.cells c t fr)) :
    w.setCell ⟨b, k, none⟩ v = w.putObj b (.cells (c.setIfInBounds k v) t fr) := by
  unfold World.setCell World.putObj
  have hb := (Array.getElem?_eq_some_iff.1 h).1
  have hg := (Array.getElem?_eq_some_iff.1 h).2
  congr 1
  apply Array.ext_getElem?
  intro i
  rw [Array.getElem?_modify, Array.getElem?_setIfInBounds]
  by_cases e : b = i
  · subst e
    simp only [if_pos, h, Option.map_some, hb]
    simp
  · rw [if_neg e, if_neg e]

theorem putObj_put (w : World) (b : Nat) (o o' : Obj) : (w.putObj b o).putObj b o' = w.putObj b o' := by
  unfold World.putObj
  simp

theorem putObj_self (w : World) (b : Nat) (o : Obj) (h : w.heap[b]? = some o) : w.putObj b o = w := by
  unfold World.putObj
  have : w.heap.setIfInBounds b o = w.heap := by
    apply Array.ext_getElem?
    intro i
    rw [Array.getElem?_setIfInBounds]
    by_cases e : b = i
    · subst e; rw [if_pos rfl, if_pos (Array.getElem?_eq_some_iff.1 h).1, h]
    · rw [if_neg e]
  rw [this]

theorem run_storeSeg (P : Program) (b off : Nat) (t : TypeId) (fr : Nat × Nat) : ∀ (vs : List Value) (i : Nat) (c : Array Value) (w : World), w.heap[b]? = some (.cells c t fr) → NoFrz c.size fr →
    off + i + vs.length ≤ c.size → (∀ v ∈ vs, v.oneCell' = true) →
    (storeCells ⟨b, off, none⟩ vs i).run P w = .ok () (w.putObj b (.cells (spliceL c.toList (off + i) vs).toArray t fr))
  | [], i, c, w, hb, _, _, _ => by
    simp only [storeCells, spliceL_nil, Array.toArray_toList]
    rw [putObj_self w b _ hb]; rfl
  | v :: vs, i, c, w, hb, hf, hl, h1 => by
    simp only [List.length_cons] at hl
    have hc : w.cell? ⟨b, off + i, none⟩ = some c[off + i] := by rw [cell_of_heap hb, Array.getElem?_eq_getElem]
    have hz : w.frozen? ⟨b, off + i, none⟩ = false := by
      rw [frozen_of_heap hb]
      have := hf (off + i) (by omega)
      simp only [not_and, Bool.and_eq_false_iff, decide_eq_false_iff_not] at this ⊢
      by_cases hx : fr.1 ≤ off + i
      · exact .inr (this hx)
      · exact .inl hx
    have hst : (store ((⟨b, off, none⟩ : Addr).add i) v).run P w = .ok () (w.putObj b (.cells (c.setIfInBounds (off + i) v) t fr)) := by
      rw [add_mk, run_store P w _ v _ (h1 v (by simp)), hc]
      simp [hz, setCell_put w b c t fr (off + i) v hb]
    have hbl := (Array.getElem?_eq_some_iff.1 hb).1
    have ih := run_storeSeg P b off t fr vs (i + 1) (c.setIfInBounds (off + i) v) (w.putObj b (.cells (c.setIfInBounds (off + i) v) t fr)) (World.putObj_heap_same hbl) (by simpa using hf) (by simp; omega) (fun x hx => h1 x (by simp [hx]))
    simp only [storeCells, Sem.run_bind, hst, Result.andThen_ok, ih, putObj_put]
    congr 3
    have := set_splice c.toList (off + i) v vs (by simp; omega)
    simp only [Array.toList_setIfInBounds]
    rw [← this]
    simp [Nat.add_assoc]

def AVal.one : AVal → Bool
  | .agg _ | .tuple _ => false
  | _ => true
theorem VRel.one {ρ : Env} {R : Rl} : ∀ {x : AVal} {v : Value}, VRel ρ R x v → x.one = true → v.oneCell' = true
  | .agg _, _, _, h => by cases h
  | .tuple _, _, _, h => by cases h
  | .bool _, _, h, _ => by cases h; rfl
  | .int _ _, _, h, _ => by cases h; rfl
  | .str _, _, h, _ => by cases h; rfl
  | .nilPtr, _, h, _ => by cases h; rfl
  | .ptr _ _, _, ⟨_, _, e⟩, _ => by subst e; rfl
  | .nilSlice, _, h, _ => by cases h; rfl
  | .slice _ _ _ _, _, ⟨_, _, e⟩, _ => by subst e; rfl
  | .slice0, _, ⟨_, _, e⟩, _ => by subst e; rfl
  | .nilMap, _, h, _ => by cases h; rfl
  | .map _, _, ⟨_, _, e⟩, _ => by subst e; rfl
  | .func _ _ _, _, ⟨_, _, _, _, e, _, _⟩, _ => by subst e; rfl
  | .nilFunc, _, h, _ => by cases h; rfl
  | .iface _ _, _, ⟨_, e, _⟩, _ => by subst e; rfl
  | .nilIface, _, h, _ => by cases h; rfl
def onesL : List AVal → Bool
  | [] => true
  | x :: xs => match x.one with | true => onesL xs | false => false
theorem VRels.ones {ρ : Env} {R : Rl} : ∀ {xs : List AVal} {vs : List Value}, VRels ρ R xs vs → onesL xs = true → ∀ v ∈ vs, v.oneCell' = true
  | [], _, h, _ => by simp only [VRels] at h; subst h; simp
  | x :: xs, _, ⟨v, vs', e, h1, h2⟩, ho => by
    subst e
    unfold onesL at ho
    split at ho
    · rename_i hx
      intro u hu
      rcases List.mem_cons.1 hu with rfl | hu
      · exact h1.one hx
      · exact h2.ones ho u hu
    · cases ho

/-- Cells of a block written. -/
def ABlk.put (x : ABlk) (off : Nat) (xs : List AVal) : Option ABlk :=
  match onesL xs with
  | false => none
  | true =>
    match x with
    | .cells t vs true => match Nat.ble (off + xs.length) vs.length with | true => some (.cells t (spliceL vs off xs) true) | false => none
    | .grow t vs n => match Nat.ble (off + xs.length) vs.length with | true => some (.grow t (spliceL vs off xs) n) | false => none
    | _ => none

theorem VRels.splice {ρ : Env} {R : Rl} {vs xs : List AVal} {us ws : List Value} {off : Nat} (h : VRels ρ R vs us) (hx : VRels ρ R xs ws) : VRels ρ R (spliceL vs off xs) (spliceL us off ws) := by
  unfold spliceL
  rw [hx.length]
  exact ((h.take off).append hx).append (h.drop _)

theorem ABlk.put_wr {x y : ABlk} {off : Nat} {xs : List AVal} (h : x.put off xs = some y) : x.wr = true := by
  unfold ABlk.put at h
  split at h
  · cases h
  · split at h
    · rfl
    · rfl
    · cases h

theorem run_put {ρ : Env} {R : Rl} {P : Program} {w : World} {b id off : Nat} {o : Obj} {x y : ABlk} {xs : List AVal} {ws : List Value} (hb : w.heap[b]? = some o) (hr : BRel ρ R id x o) (hy : x.put off xs = some y) (hx : VRels ρ R xs ws) :
    ∃ o', (storeCells ⟨b, off, none⟩ ws).run P w = .ok () (w.putObj b o') ∧ BRel ρ R id y o' := by
  unfold ABlk.put at hy
  split at hy
  · cases hy
  rename_i hones
  have h1 := hx.ones hones
  split at hy
  · rename_i t vs
    split at hy
    · rename_i hle
      cases hy
      obtain ⟨c, fr, rfl, hv, hf⟩ := hr
      have hle' := Nat.le_of_ble_eq_true hle
      have hc := hv.length
      rw [← hx.length] at hle'
      simp only [Array.length_toList] at hc
      refine ⟨_, run_storeSeg P b off t fr ws 0 c w hb (hf rfl) (by omega) h1, _, fr, rfl, ?_, ?_⟩
      · simpa using hv.splice hx
      · intro _
        have : (spliceL c.toList (off + 0) ws).toArray.size = c.size := by simp [spliceL_length (l := c.toList) (xs := ws) (off := off) (by simp; omega)]
        rw [this]; exact hf rfl
    · cases hy
  · rename_i t vs n
    split at hy
    · rename_i hle
      cases hy
      obtain ⟨c, fr, pre, rest, rfl, h0, hv, hsz, hf⟩ := hr
      have hle' := Nat.le_of_ble_eq_true hle
      have hc := hv.length
      rw [← hx.length] at hle'
      have hcl : c.size = pre.length + rest.length := by rw [← Array.length_toList, h0]; simp
      have hs : spliceL c.toList (off + 0) ws = spliceL pre off ws ++ rest := by
        unfold spliceL
        rw [h0, Nat.add_zero, List.take_append_of_le_length (by omega), List.drop_append_of_le_length (by omega)]
        simp
      have hs2 : (spliceL c.toList (off + 0) ws).toArray.size = c.size := by simp [spliceL_length (l := c.toList) (xs := ws) (off := off) (by simp; omega)]
      refine ⟨_, run_storeSeg P b off t fr ws 0 c w hb hf (by omega) h1, _, fr, spliceL pre off ws, rest, rfl, by simpa using hs, hv.splice hx, ?_, ?_⟩
      · rw [hs2]; exact hsz
      · rw [hs2]; exact hf
    · cases hy
  · cases hy
end Go.Sx
