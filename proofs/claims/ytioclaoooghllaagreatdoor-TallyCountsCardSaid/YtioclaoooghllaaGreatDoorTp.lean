/-
  A range over a function whose rounds all go on: the iterator may range over another iterator.
  No condition: laws.
-/
import Derived.RangeFuncNested
import Derived.RangeFuncBound
import Derived.RangeFuncCalls
import Derived.RangeFuncLeaves
import Derived.OwnWalkIn
import Derived.Test.YtioclaoooghllaaGreatDoorTq
import Derived.OrdersIn
namespace Go.Sm
open Go Go.RowKit
/-- what lay lies as it lay, but for the blocks of M -/
structure But (M : Nat → Prop) (A B : World) : Prop where
  os : B.os = A.os
  tape : B.tape = A.tape
  output : B.output = A.output
  size : A.heap.size ≤ B.heap.size
  block : ∀ k, k < A.heap.size → ¬ M k → B.heap[k]? = A.heap[k]?
theorem But.refl (M : Nat → Prop) (A : World) : But M A A := ⟨rfl, rfl, rfl, Nat.le_refl _, fun _ _ _ => rfl⟩
theorem But.trans {M : Nat → Prop} {A B C : World} (h : But M A B) (k : But M B C) : But M A C :=
  ⟨k.os.trans h.os, k.tape.trans h.tape, k.output.trans h.output, Nat.le_trans h.size k.size, fun i hi hm => (k.block i (Nat.lt_of_lt_of_le hi h.size) hm).trans (h.block i hi hm)⟩
theorem But.mono {M N : Nat → Prop} {A B : World} (h : But M A B) (hn : ∀ k, k < A.heap.size → M k → N k) : But N A B :=
  ⟨h.os, h.tape, h.output, h.size, fun k hk hm => h.block k hk fun hM => hm (hn k hk hM)⟩
theorem But.of_below {M : Nat → Prop} {n : Nat} {A B : World} (h : Below n A B) (hn : A.heap.size ≤ n) : But M A B :=
  ⟨h.os, h.tape, h.output, h.size, fun k hk _ => h.block k (Nat.lt_of_lt_of_le hk hn)⟩
theorem But.below {M : Nat → Prop} {n : Nat} {A B : World} (h : But M A B) (hm : ∀ k, k < n → ¬ M k) (hn : n ≤ A.heap.size) : Below n A B :=
  ⟨h.os, h.tape, h.output, h.size, fun k hk => h.block k (Nat.lt_of_lt_of_le hk hn) (hm k hk)⟩
theorem But.cell {M : Nat → Prop} {A B : World} (h : But M A B) {p : Addr} {v : Value} (hc : A.cell? p = some v) (hm : ¬ M p.block) : B.cell? p = some v :=
  (World.cell?_of_block (h.block _ (World.block_lt_of_cell? A p hc) hm)).trans hc
theorem But.heap {M : Nat → Prop} {A B : World} (h : But M A B) {k : Nat} {o : Obj} (ho : A.heap[k]? = some o) (hm : ¬ M k) : B.heap[k]? = some o :=
  (h.block k (Array.getElem?_eq_some_iff.1 ho).1 hm).trans ho
theorem But.alloc (M : Nat → Prop) (A : World) (o : Obj) : But M A (A.alloc o) := .of_below ((Below.refl _ A).alloc (Nat.le_refl _) o) (Nat.le_refl _)
theorem But.drew (M : Nat → Prop) (A : World) : But M A A.drew := ⟨rfl, rfl, rfl, Nat.le_refl _, fun _ _ _ => rfl⟩
theorem But.setCell (M : Nat → Prop) (A : World) (p : Addr) (u : Value) (hp : M p.block) : But M A (A.setCell p u) :=
  ⟨rfl, rfl, rfl, by simp [World.setCell], fun k _ hm => Below.heap_setCell _ _ _ _ (fun e => hm (e ▸ hp))⟩
theorem But.putObj (M : Nat → Prop) (A : World) (l : Nat) (o : Obj) (hp : M l) : But M A (A.putObj l o) :=
  ⟨rfl, rfl, rfl, by simp [World.putObj], fun k _ hm => World.putObj_heap_other (fun e => hm (e ▸ hp))⟩
theorem But.grown {M : Nat → Prop} {A B : World} {row : Option Nat} (hg : A.grownBy B row) (hr : ∀ k, row = some k → M k) : But M A B :=
  ⟨hg.os, hg.tape, hg.output, hg.size, fun k hk hm => hg.block k hk (fun e => hm (hr k e.symm))⟩

theorem But.later {M : Nat → Prop} {n : Nat} {w A B : World} (h : But M w A) (hab : Below n A B) (hn : w.heap.size ≤ n) : But M w B :=
  ⟨hab.os.trans h.os, hab.tape.trans h.tape, hab.output.trans h.output, Nat.le_trans h.size hab.size, fun k hk hm => (hab.block k (by omega)).trans (h.block k hk hm)⟩

/-- an iterator's contract, for rounds that all go on: xs come, one by one; the rounds turn blocks of M alone (and new ones), the iterator none that lay -/
def Runs {α : Type} (P : Program) (g : Nat) (lb : Array Value) (encs : α → Array Value) (Pre : (Nat → Prop) → World → Prop) (xs : List α) : Prop :=
  ∀ (l : Nat) (M : Nat → Prop) (J : List α → World → Prop) (W : World), Pre M W → (∀ k, M k → k < W.heap.size) →
    (∀ s A B, J s A → Below W.heap.size A B → J s B) →
    (∀ pre x post W1, xs = pre ++ x :: post → J pre W1 → But M W W1 → YieldAt Fence.wide 0 P l (encs x) W1 fun e W' => e = .returned (.bool true) ∧ J (pre ++ [x]) W' ∧ But M W1 W') →
    J [] W →
    CallsIn Fence.wide 0 P g (#[.func (.yield l) #[] #[]] ++ lb) W fun e W' => (∃ v, e = .returned v) ∧ J xs W' ∧ But M W W'

/-- the body of a round goes on -/
def goesOn {α : Type} (M : Nat → Prop) (I : List α → World → Prop) (xs : List α) (W : World) : Exit → Act → World → Prop
  | .normal, _, W' => But M W W' ∧ I xs W'
  | _, _, _ => False

variable {P : Program}
theorem wpIn_rangeFunc_all {α : Type} {g : Operand} {ps : Array Tmp} {assign body : Code} {Q : Exit → Act → World → Prop} {a : Act} {w : World}
    {gf : Nat} {lb : Array Value} (hg : a.eval g = .func (.func gf) #[] lb) (eg : ∀ args w, (callFunc gf args).run P w = .ok (.enter gf args) w)
    {encs : α → Array Value} {Pre : (Nat → Prop) → World → Prop} {xs : List α} (hseq : Runs P gf lb encs Pre xs) (hps : ∀ x, (encs x).size = ps.size)
    (M : Nat → Prop) (hM : ∀ k, M k → k < w.heap.size) (hpre : ∀ w', Below w.heap.size w w' → Pre (fun k => M k ∨ k = w.heap.size + 1) w')
    (I : List α → World → Prop) (hI : ∀ s A B, I s A → Below w.heap.size A B → I s B) (h0 : I [] w)
    (hround : ∀ (l : Nat) (pre : List α) (x : α) (post : List α) (W : World), w.heap.size < l → xs = pre ++ x :: post → I pre W → But M w W → l < W.heap.size →
      assign.wpIn (Fence.wide.inRound l) 0 P (Exit.then (fun a' Wa => But (fun _ => False) W Wa ∧ ∀ W2, But (fun k => k = l) Wa W2 → body.wpIn (Fence.wide.inRound l) 0 P (goesOn M I (pre ++ [x]) W2) a' W2) (fun _ _ _ => False))
        { tmps := (ps.zip (encs x)).foldl (fun t (p, v) => t.setIfInBounds p v) a.tmps, defers := [] } W)
    (hdone : ∀ (W : World), I xs W → But M w W → W.heap[w.heap.size]? = some (.deferred (some [])) → Q .normal { a with defers := { target := .collected w.heap.size, args := #[] } :: a.defers } W) :
    (Code.rangeFunc g ps assign body).wpIn Fence.wide 0 P Q a w := by
  refine wpIn_rangeFunc ?_
  intro fn hfn
  rw [show Fence.wide.round = none from rfl]
  obtain ⟨rec, hrec⟩ : ∃ rec : LoopState → Option Code → Loop, rec = fun st pe => { state := st, pending := pe, fn, tmps := a.tmps, params := ps, assign, body, defers := w.heap.size } := ⟨_, rfl⟩
  obtain ⟨W1, hW1⟩ : ∃ W1, (w.alloc (.deferred (some []))).alloc (.loop (rec .ready none)) = W1 := ⟨_, rfl⟩
  have hs1 : W1.heap.size = w.heap.size + 2 := by rw [← hW1]; simp
  have hL1 : W1.heap[w.heap.size + 1]? = some (.loop (rec .ready none)) := by
    rw [← hW1]; have := World.alloc_heap_new (w.alloc (.deferred (some []))) (.loop (rec .ready none)); rwa [World.size_alloc] at this
  have hK1 : W1.heap[w.heap.size]? = some (.deferred (some [])) := by
    rw [← hW1]; exact (Below.heap_alloc _ _ _ (by simp)).trans (World.alloc_heap_new w _)
  have hb1 : Below w.heap.size w W1 := by
    rw [← hW1]; exact (((Below.refl _ w).alloc (Nat.le_refl _) _).alloc (by simp) _)
  refine ⟨w.heap.size + 1, [{ target := .collected w.heap.size, args := #[] }], W1, { target := .fn (.func gf) lb, args := #[.func (.yield (w.heap.size + 1)) #[] #[]] }, W1, gf,
    #[.func (.yield (w.heap.size + 1)) #[] #[]] ++ lb, W1, ?_, ?_, ?_, ?_, fun h => by simp [Fence.wide] at h, ?_⟩
  · rw [← hW1, hrec]; exact run_enterLoop_outer _ _ _ _ _
  · simp only [resolve, hg]
    simp [go_sem]
  · intro f' hf'; trivial
  · simp [invoke, go_sem, eg]
  · have hMl : ∀ k, (M k ∨ k = w.heap.size + 1) → k < W1.heap.size := fun k hk => by rw [hs1]; rcases hk with h | h; exact Nat.lt_of_lt_of_le (hM k h) (by omega); omega
    refine (hseq (w.heap.size + 1) (fun k => M k ∨ k = w.heap.size + 1)
      (fun pre W => I pre W ∧ But M w W ∧ W.heap[w.heap.size + 1]? = some (.loop (rec .ready none)) ∧ W.heap[w.heap.size]? = some (.deferred (some [])))
      W1 (hpre _ hb1) hMl
      (fun s A B hs hab => ⟨hI s A B hs.1 (hab.mono (by omega)), hs.2.1.later hab (by omega), (hab.block _ (by omega)).trans hs.2.2.1, (hab.block _ (by omega)).trans hs.2.2.2⟩)
      ?_ ⟨hI _ _ _ h0 hb1, .of_below hb1 (Nat.le_refl _), hL1, hK1⟩).mono ?_
    · rintro pre x post W hx ⟨hi, hbw, hl, hk⟩ _
      have hlt : w.heap.size + 1 < W.heap.size := (Array.getElem?_eq_some_iff.1 hl).1
      have hy := run_yield (P := P) (args := encs x) hl (by rw [hrec]; exact hps x)
      rw [hrec] at hy
      refine ⟨fn, _, assign, body, hy, roundIn_of_wpIn trivial (wpIn_mono (hround _ pre x post W (by omega) hx hi hbw hlt) ?_)⟩
      rintro e a' Wa hp
      cases e with
      | normal =>
        obtain ⟨hka, hbody⟩ := hp
        replace hl := hka.heap hl (fun h => h)
        replace hk := hka.heap hk (fun h => h)
        have hlt : w.heap.size + 1 < Wa.heap.size := (Array.getElem?_eq_some_iff.1 hl).1
        refine ⟨_, run_beginRound hl (by rw [hrec]), ?_⟩
        have hl2 : (Wa.putObj (w.heap.size + 1) (.loop { rec .ready none with state := .busy })).heap[w.heap.size + 1]? = some (.loop { rec .ready none with state := .busy }) := World.putObj_heap_same hlt
        have hk2 : (Wa.putObj (w.heap.size + 1) (.loop { rec .ready none with state := .busy })).heap[w.heap.size]? = some (.deferred (some [])) := (World.putObj_heap_other (by omega)).trans hk
        have hb2 := But.putObj (fun k => k = w.heap.size + 1) Wa (w.heap.size + 1) (.loop { rec .ready none with state := .busy }) rfl
        refine wpIn_mono (hbody _ hb2) ?_
        rintro e a3 W3 hp
        cases e with
        | normal =>
          obtain ⟨hk3, hi3⟩ := hp
          have hM3 : ∀ k, w.heap.size ≤ k → ¬ M k := fun k h1 h2 => by have := hM k h2; omega
          have hl3 := hk3.heap hl2 (hM3 _ (by omega))
          have hk4 := hk3.heap hk2 (hM3 _ (by omega))
          have hr := run_endRound (P := P) none hl3
          rw [hrec] at hr hl3
          have hlt3 := (Array.getElem?_eq_some_iff.1 hl3).1
          have hb4 := But.putObj (fun k => k = w.heap.size + 1) W3 (w.heap.size + 1) (.loop (rec .ready none)) rfl
          have hbb : Below w.heap.size W3 (W3.putObj (w.heap.size + 1) (.loop (rec .ready none))) := hb4.below (fun k hk h => by omega) (by omega)
          have hall : But (fun k => M k ∨ k = w.heap.size + 1) W (W3.putObj (w.heap.size + 1) (.loop (rec .ready none))) :=
            (((hka.mono (fun _ _ h => h.elim)).trans (hb2.mono (fun _ _ h => .inr h))).trans (hk3.mono (fun _ _ h => .inl h))).trans (hb4.mono (fun _ _ h => .inr h))
          refine ⟨.bool true, W3.putObj (w.heap.size + 1) (.loop (rec .ready none)), by rw [hrec]; exact hr, rfl, ⟨hI _ _ _ hi3 hbb, ?_, World.putObj_heap_same hlt3, (World.putObj_heap_other (by omega)).trans hk4⟩, hall⟩
          exact ⟨hall.os.trans hbw.os, hall.tape.trans hbw.tape, hall.output.trans hbw.output, Nat.le_trans hbw.size hall.size, fun k hk hm => (hall.block k (Nat.lt_of_lt_of_le hk hbw.size) (fun h => h.elim hm (by omega))).trans (hbw.block k hk hm)⟩
        | ret => exact hp.elim
        | exit id => exact hp.elim
        | goto t => exact hp.elim
        | panic ch => exact hp.elim
        | outgrown => exact hp.elim
      | ret => exact hp.elim
      | exit id => exact hp.elim
      | goto t => exact hp.elim
      | panic ch => exact hp.elim
      | outgrown => exact hp.elim
    · rintro e W2 ⟨⟨v, rfl⟩, ⟨hi, hbw, hl, hk⟩, _⟩
      have hb4 := But.putObj (fun k => k = w.heap.size + 1) W2 (w.heap.size + 1)
      have hlt := (Array.getElem?_eq_some_iff.1 hl).1
      refine ⟨none, _, by have := run_endLoop (P := P) hl (by rw [hrec]; simp); rw [hrec] at this; exact this, hdone _ (hI _ _ _ hi ((hb4 _ rfl).below (fun k hk h => by omega) (by omega))) ?_ ((World.putObj_heap_other (by omega)).trans hk)⟩
      exact hbw.later (n := w.heap.size) ((hb4 _ rfl).below (fun k hk h => by omega) (by omega)) (Nat.le_refl _)
end Go.Sm
namespace Go.Sm
open Go Go.RowKit
section
variable {P : Program} {ops : Array Oper} {Q : Exit → Act → World → Prop} {md : Region.Mode} {l : Nat} {S : World → Prop}
theorem oper_round {o : Oper} {a : Act} {w : World} {K : Act → World → Prop} (hd : ∀ c, o.op ≠ .defer c) (h : o.wp P a w K Q) : o.wpIn (Fence.wide.inRound l) 0 P a w K Q := by
  unfold Oper.wpIn
  refine ⟨fun _ _ => trivial, ?_⟩
  rw [Oper.semAt_eq _ _ _ hd]
  unfold Oper.wp at h
  generalize (execOp a.eval o).run P w = r at *
  cases r with
  | ok x w' =>
    cases x <;> simp only [Oper.uponIn, Oper.upon] at h ⊢ <;> first
      | exact h
      | exact ⟨fun h => (by simp [Fence.wide] at h), CallsIn.inRound l (callsIn_wide.2 h)⟩
      | exact ⟨fun h => (by simp [Fence.wide] at h), fun c cs _ => let ⟨v, w', r, s⟩ := h c cs; ⟨v, w', r, stepsIn_wide.2 s⟩⟩
      | exact h.elim
  | halt x w' => cases x <;> simp only [Oper.uponIn, Oper.upon] at h ⊢ <;> exact h
theorem any_round (hQ : ¬ LetsOut Q) (hd : ∀ (i : Nat) (o : Oper), ops[i]? = some o → ∀ c, o.op ≠ .defer c) : ∀ (fuel : Nat) (listed : Array Bool) (a : Act) (w : World), wpAny P md ops Q fuel listed a w → wpAnyIn (Fence.wide.inRound l) 0 P md ops Q fuel listed a w
  | 0, _, _, _, h => h
  | fuel + 1, listed, a, w, h => by
    refine ⟨h.1, fun i hi => ?_⟩
    have h2 := h.2 i hi
    unfold wpOp at h2
    unfold wpOpIn
    cases ho : ops[i]? with
    | none => simp only [ho] at h2 ⊢; exact any_round hQ hd fuel _ _ _ h2
    | some o =>
      simp only [ho] at h2 ⊢
      split
      · rename_i hw
        simp only [hw, if_true] at h2
        exact Oper.wpIn_mono (fun a w => any_round hQ hd fuel _ a w) (oper_round (hd i o ho) (h2.resolve_right (fun h => hQ h.2)))
      · rename_i hw
        simp only [hw] at h2
        exact ⟨fun _ _ => trivial, any_round hQ hd fuel _ _ _ h2⟩
theorem region_start_in {id : Nat} {a : Act} {w : World} (n : Nat) (l0 : Array Bool) (hm : P.follows .mixedOrders = true) (hn : ops.size = n) (hl : Array.replicate n false = l0)
    (hQ : ¬ LetsOut Q) (hd : ops.all (fun o => match o.op with | .defer _ => false | _ => true) = true)
    (h : wpAnyH P .any ops Q S n l0 a w.drew) : (Code.region id ops true).wpIn (Fence.wide.inRound l) 0 P Q a w := by
  subst hn hl
  refine wpIn_region_any hm (any_round hQ (fun i o ho c hc => ?_) _ _ _ _ (wpAny_of_held _ _ _ _ h))
  have h1 : i < ops.size := (Array.getElem?_eq_some_iff.1 ho).1
  have h2 := Array.all_eq_true.1 hd i h1
  rw [(Array.getElem?_eq_some_iff.1 ho).2, hc] at h2
  cases h2
end
section
variable {P : Program} {ops : Array Oper} {Q : Exit → Act → World → Prop} {md : Region.Mode} {l : Nat} {S : World → Prop}
/-- whatever order is picked, in a round's frame; S holds behind every operation -/
def wpAnyR (l : Nat) (P : Program) (md : Region.Mode) (ops : Array Oper) (Q : Exit → Act → World → Prop) (S : World → Prop) : Nat → Array Bool → Act → World → Prop
  | 0, listed, a, w => Region.ready md ops listed = [] ∧ Q .normal a w
  | fuel + 1, listed, a, w =>
    (Region.ready md ops listed = [] → Q .normal a w) ∧
    ∀ i ∈ Region.ready md ops listed, wpOpIn (Fence.wide.inRound l) 0 P ops Q i (fun a' w' => S w' ∧ wpAnyR l P md ops Q S fuel (listed.setIfInBounds i true) a' w') a w
theorem wpAnyIn_of_R : ∀ (fuel : Nat) (listed : Array Bool) (a : Act) (w : World), wpAnyR l P md ops Q S fuel listed a w → wpAnyIn (Fence.wide.inRound l) 0 P md ops Q fuel listed a w
  | 0, _, _, _, h => h
  | fuel + 1, _, _, _, h => ⟨h.1, fun i hi => wpOpIn_mono (fun a' w' h' => wpAnyIn_of_R fuel _ a' w' h'.2) (h.2 i hi)⟩
abbrev NoDefer (ops : Array Oper) : Prop := ∀ (i : Nat) (o : Oper), ops[i]? = some o → ∀ c, o.op ≠ .defer c
theorem noDefer_of (h : ops.all (fun o => match o.op with | .defer _ => false | _ => true) = true) : NoDefer ops := fun i o ho c hc => by
  have h1 : i < ops.size := (Array.getElem?_eq_some_iff.1 ho).1
  have h2 := Array.all_eq_true.1 h i h1
  rw [(Array.getElem?_eq_some_iff.1 ho).2, hc] at h2
  cases h2
theorem yieldsR {i : Nat} {o : Oper} {v : Value} {a : Act} (hd : NoDefer ops) (hi : ops[i]? = some o) (hy : YieldsIf P ops S o v a)
    {K : Act → World → Prop} {w : World} (hS : S w) (h : K (a.put o.dst v) w) : wpOpIn (Fence.wide.inRound l) 0 P ops Q i K a w := by
  unfold Go.wpOpIn
  simp only [hi]
  rcases hy with ⟨hw, hv⟩ | ⟨hw, rfl⟩
  · simp only [hw, if_true, Oper.wpIn, Oper.semAt_eq _ _ _ (hd i o hi), hv w hS, Oper.uponIn]; exact ⟨fun _ _ => trivial, h⟩
  · simp only [hw, Bool.false_eq_true, if_false]; exact ⟨fun _ _ => trivial, h⟩
theorem wpR_putIf {j : Nat} {oi oj : Oper} {v : Value} (hd : NoDefer ops) (hj : ops[j]? = some oj) (hap : oi.apart ops oj = true)
    (hsi : ∀ cs b, oi.op ≠ .select cs b) (hsj : ∀ cs b, oj.op ≠ .select cs b)
    (hQ : ∀ c a w, Q (.panic c) (a.put oi.dst v) w → Q (.panic c) a w) {K : Act → World → Prop} {a : Act} {w : World}
    (hy : YieldsIf P ops S oi v a) (h : wpOpIn (Fence.wide.inRound l) 0 P ops Q j K (a.put oi.dst v) w) :
    wpOpIn (Fence.wide.inRound l) 0 P ops Q j (fun a' w' => YieldsIf P ops S oi v a' ∧ K (a'.put oi.dst v) w') a w := by
  obtain ⟨h1, h2, h3⟩ := Oper.apart_spec hap
  have keep : ∀ (a : Act), YieldsIf P ops S oi v a → ∀ u, YieldsIf P ops S oi v (a.put oj.dst u) := fun a hy u =>
    hy.of_same (execOp_put oi hsi a oj.dst u h3) (wanted_put oi a oj.dst u h3)
  have keepD : ∀ d, YieldsIf P ops S oi v { a with defers := d :: a.defers } := fun d => hy.of_same rfl rfl
  unfold wpOpIn at h ⊢
  simp only [hj] at h ⊢
  rw [wanted_put oj a oi.dst v h1] at h
  split
  · rename_i hw
    simp only [hw, if_true] at h
    unfold Oper.wpIn at *
    refine ⟨fun _ _ => trivial, ?_⟩
    have h := h.2
    rw [Oper.semAt_eq _ _ _ (hd j oj hj)] at h ⊢
    rw [execOp_put oj hsj a oi.dst v h1] at h
    generalize (execOp a.eval oj).run P w = r at *
    cases r with
    | ok n w' =>
      cases n <;> simp only [Oper.uponIn] at h ⊢
      case value u => exact ⟨keep a hy u, by rw [← Act.put_comm a v u h2]; exact h⟩
      case skip => exact ⟨keep a hy _, by rw [← Act.put_comm a v undef h2]; exact h⟩
      case defer d =>
        refine ⟨keep _ (keepD d) _, ?_⟩
        rw [← Act.put_comm _ v undef h2, ← Act.put_defers]
        exact h
      case enter f args =>
        refine ⟨h.1, CallsIn.mono h.2 fun e w'' he => ?_⟩
        cases e with
        | returned u => exact ⟨keep a hy u, by rw [← Act.put_comm a v u h2]; exact he⟩
        | panicked c => exact hQ _ _ _ he
        | outgrown => exact he
      case row row args => exact ⟨h.1, RowsIn.mono h.2 fun u w'' he => ⟨keep a hy u, by rw [← Act.put_comm a v u h2]; exact he⟩⟩
      case round l f tmps assign body =>
        refine ⟨h.1, RoundIn.mono h.2 fun e w'' he => ?_⟩
        cases e with
        | returned u => exact ⟨keep a hy u, by rw [← Act.put_comm a v u h2]; exact he⟩
        | panicked c => exact hQ _ _ _ he
        | outgrown => exact he
    | halt x w' =>
      cases x <;> simp only [Oper.uponIn] at h ⊢
      case panic u => exact hQ _ _ _ h
  · rename_i hw
    simp only [hw] at h
    exact ⟨fun _ _ => trivial, keep a hy _, by rw [← Act.put_comm a v undef h2]; exact h.2⟩
theorem wpAnyR_first {i : Nat} {oi : Oper} {v : Value} (hd : NoDefer ops) (hi : ops[i]? = some oi) (hsel : ∀ (j : Nat) (o : Oper) cs b, ops[j]? = some o → o.op ≠ .select cs b)
    (hQ : ∀ c a w, Q (.panic c) (a.put oi.dst v) w → Q (.panic c) a w) :
    ∀ (fuel : Nat) (listed : Array Bool) (a : Act) (w : World),
      (∀ j oj, ops[j]? = some oj → j ≠ i → listed.getD j true = false → (∀ e ∈ oj.after, Region.binds md e = true → e.on ≠ i) → oi.apart ops oj = true) →
      i ∈ Region.ready md ops listed → YieldsIf P ops S oi v a → S w →
      wpAnyR l P md ops Q S fuel (listed.setIfInBounds i true) (a.put oi.dst v) w → wpAnyR l P md ops Q S (fuel + 1) listed a w := by
  intro fuel
  induction fuel with
  | zero =>
    intro listed a w _ hr hy hS H
    refine ⟨fun h => (by rw [h] at hr; cases hr), fun j hj => ?_⟩
    by_cases hji : j = i
    · subst hji; exact yieldsR hd hi hy hS ⟨hS, H⟩
    · have := ready_mono hj hji
      rw [H.1] at this
      cases this
  | succ fuel ih =>
    intro listed a w hfree hr hy hS H
    refine ⟨fun h => (by rw [h] at hr; cases hr), fun j hj => ?_⟩
    by_cases hji : j = i
    · subst hji; exact yieldsR hd hi hy hS ⟨hS, H⟩
    · have h1 := H.2 j (ready_mono hj hji)
      obtain ⟨hjun, oj, hoj, hall⟩ := mem_ready.1 hj
      have hnot : ∀ e ∈ oj.after, Region.binds md e = true → e.on ≠ i := fun e he hb heq => by
        have h1 := hall e he hb
        have h0 := (mem_ready.1 hr).1
        rw [heq] at h1
        rcases Nat.lt_or_ge i listed.size with h' | h'
        · simp [h'] at h0 h1; rw [h0] at h1; cases h1
        · simp [Array.getElem?_eq_none h'] at h1
      have h2 := wpR_putIf hd hoj (hfree j oj hoj hji hjun hnot) (fun cs b => hsel i oi cs b hi) (fun cs b => hsel j oj cs b hoj) hQ hy h1
      have hfree' : ∀ k ok, ops[k]? = some ok → k ≠ i → (listed.setIfInBounds j true).getD k true = false →
          (∀ e ∈ ok.after, Region.binds md e = true → e.on ≠ i) → oi.apart ops ok = true := fun k ok hk hki hun hno => by
        refine hfree k ok hk hki ?_ hno
        by_cases hjk : j = k
        · subst hjk; exact hjun
        · rw [getD_set_ne true hjk] at hun; exact hun
      refine wpOpIn_mono (fun a' w' h3 => ⟨h3.2.1, ih (listed.setIfInBounds j true) a' w' hfree' (ready_mono hr (Ne.symm hji)) h3.1 h3.2.1 ?_⟩) h2
      rw [Array.setIfInBounds_comm _ _ hji]
      exact h3.2.2
theorem startR {id : Nat} {a : Act} {w : World} (n : Nat) (l0 : Array Bool) (hm : P.follows .mixedOrders = true) (hn : ops.size = n) (hl : Array.replicate n false = l0)
    (h : wpAnyR l P .any ops Q S n l0 a w.drew) : (Code.region id ops true).wpIn (Fence.wide.inRound l) 0 P Q a w := by
  subst hn hl
  exact wpIn_region_any hm (wpAnyIn_of_R _ _ _ _ h)
theorem takeQR (i : Nat) (l' : Array Bool) (d : Option Tmp) {o : Oper} {v : Value} {fuel : Nat} {listed : Array Bool} {a : Act} {w : World} (hd : NoDefer ops) (hi : ops[i]? = some o)
    (hc : (Region.noSelect ops && Region.free md ops listed i && (Region.ready md ops listed).contains i) = true) (hQ : ∀ c a w, Q (.panic c) (a.put o.dst v) w → Q (.panic c) a w)
    (hw : Region.wanted o (yielded ops a.tmps) = true) (hr : ∀ w, S w → (execOp a.eval o).run P w = .ok (.value v) w) (hS : S w) (hl : listed.setIfInBounds i true = l') (hdd : o.dst = d)
    (h : wpAnyR l P md ops Q S fuel l' (a.put d v) w) : wpAnyR l P md ops Q S (fuel + 1) listed a w := by
  simp only [Bool.and_eq_true] at hc
  exact wpAnyR_first hd hi (Region.noSelect_spec hc.1.1) hQ fuel listed a w (Region.free_spec hi hc.1.2) (by simpa using hc.2) (.inl ⟨hw, hr⟩) hS (by rw [hl, hdd]; exact h)
theorem takeER (i : Nat) (l' : Array Bool) (d : Option Tmp) {o : Oper} {fuel : Nat} {listed : Array Bool} {a : Act} {w : World} (hr : Region.ready md ops listed = [i]) (hi : ops[i]? = some o) (hw : Region.wanted o (yielded ops a.tmps) = true) (hl : listed.setIfInBounds i true = l') (hd : o.dst = d)
    (h : ∀ K : Act → World → Prop, (∀ v w', S w' → wpAnyR l P md ops Q S fuel l' (a.put d v) w' → K (a.put o.dst v) w') → o.wpIn (Fence.wide.inRound l) 0 P a w K Q) : wpAnyR l P md ops Q S (fuel + 1) listed a w := by
  refine ⟨fun h0 => by rw [h0] at hr; simp at hr, fun j hj => ?_⟩
  rw [hr] at hj
  obtain rfl : j = i := by simpa using hj
  unfold wpOpIn
  simp only [hi, hw, if_true]
  exact h _ fun v w' hS hW => ⟨hS, by rw [hl, hd]; exact hW⟩
theorem doneR {listed : Array Bool} {a : Act} {w : World} (hr : Region.ready md ops listed = []) (h : Q .normal a w) : wpAnyR l P md ops Q S 0 listed a w := ⟨hr, h⟩
end
section
variable {P : Program} {Q : Exit → Act → World → Prop} {l : Nat} {K : Act → World → Prop} {o : Oper} {a : Act} {w w1 : World}
theorem callR {f : FuncId} {args : Array Value} {R : Ending → World → Prop} (hd : ∀ c, o.op ≠ .defer c) (h1 : (execOp a.eval o).run P w = .ok (.enter f args) w1) (hC : Calls P f args w1 R)
    (h : ∀ e w', R e w' → ∃ v, e = .returned v ∧ K (a.put o.dst v) w') : o.wpIn (Fence.wide.inRound l) 0 P a w K Q := by
  unfold Oper.wpIn
  refine ⟨fun _ _ => trivial, ?_⟩
  rw [Oper.semAt_eq _ _ _ hd, h1]
  exact ⟨fun h => (by simp [Fence.wide] at h), CallsIn.inRound l (CallsIn.mono (callsIn_wide.2 hC) fun e w' he => by obtain ⟨v, rfl, hk⟩ := h e w' he; exact hk)⟩
theorem yieldR {l' : Nat} {fn : FuncId} {tmps : Array Value} {assign body : Code} {R : Ending → World → Prop} (hd : ∀ c, o.op ≠ .defer c) (h1 : (execOp a.eval o).run P w = .ok (.round l' fn tmps assign body) w1)
    (hR : RoundIn Fence.wide 0 P l' fn tmps assign body w1 R) (h : ∀ e w', R e w' → ∃ v, e = .returned v ∧ K (a.put o.dst v) w') : o.wpIn (Fence.wide.inRound l) 0 P a w K Q := by
  unfold Oper.wpIn
  refine ⟨fun _ _ => trivial, ?_⟩
  rw [Oper.semAt_eq _ _ _ hd, h1]
  exact ⟨fun h => (by simp [Fence.wide] at h), RoundIn.mono (R := R) hR fun e w' he => by obtain ⟨v, rfl, hk⟩ := h e w' he; exact hk⟩
end
theorem wide_depth : Fence.wide.depth = none := rfl
theorem wide_fn (f : FuncId) : Fence.wide.fn f = True := rfl
end Go.Sm
