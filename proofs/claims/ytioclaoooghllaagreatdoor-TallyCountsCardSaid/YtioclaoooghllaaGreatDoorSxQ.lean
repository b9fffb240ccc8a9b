/-
  The abstract executor, part Q: operations, one and many, within a frame.
  No condition: definitions and lemmas.
-/
import Derived.Test.YtioclaoooghllaaGreatDoorSxO
namespace Go.Sx
open Go.Instr

section
variable {P : Program} {G : Nat} {ρ : Env} {τ : Type} {Post : τ → Prop}

def CallRes (ρ : Env) (R : Rl) (m : AM) (w : World) (K : AVal → AM → Prop) (u : Value) (w' : World) : Prop :=
  ∃ R' v m', VRel ρ R' v u ∧ MemInv ρ R' m' w' ∧ MStep R m w R' m' w' ∧ K v m'

def RoundRel (R : Rl) : Option Nat → Option Nat → Prop
  | none, r => r = none
  | some l, r => ∃ bl, R.blk l = some bl ∧ r = some bl
theorem RoundRel.mono {R R' : Rl} (h : R.le R') : ∀ {o r : Option Nat}, RoundRel R o r → RoundRel R' o r
  | none, _, e => e
  | some _, _, ⟨bl, hb, e⟩ => ⟨bl, (h _ _ hb).1, e⟩

/-- How a piece of code leaves. -/
def Arr (P : Program) (M : Machine) (b : Frame) (k : List Item) (cs : List Frame) : AEx → Act → World → Prop
  | .normal, a, w => Steps P M (lone (b.atR a k) cs w)
  | .exit id, a, w => ∃ k', exitTo id k' = exitTo id k ∧ Steps P M (lone (b.atR a (.code (.exit id) :: k')) cs w)
  | .ret, a, w => ∃ k', Steps P M (lone (b.atR a (.code .ret :: k')) cs w)
theorem Arr.of_steps {M M1 : Machine} {b : Frame} {k : List Item} {cs : List Frame} {e : AEx} {a : Act} {w : World} (h : Steps P M M1) (h' : Arr P M1 b k cs e a w) : Arr P M b k cs e a w := by
  cases e with
  | normal => exact h.trans h'
  | exit id => obtain ⟨k', h1, h2⟩ := h'; exact ⟨k', h1, h.trans h2⟩
  | ret => obtain ⟨k', h2⟩ := h'; exact ⟨k', h.trans h2⟩

def CodeRes (P : Program) (ρ : Env) (G : Nat) (R : Rl) (m : AM) (w : World) (b : Frame) (k : List Item) (cs : List Frame) (M : Machine) (S : AEx → AS → Prop) : Prop :=
  ∃ e R' s' a' w', Now ρ G R' noD s' a' w' ∧ MStep R m w R' s'.m w' ∧ S e s' ∧ Arr P M b k cs e a' w'

/-- What is asked of a job: where its outcome holds, the machine comes to it. -/
def JOk (P : Program) (G : Nat) (ρ : Env) (Post : τ → Prop) (rec : Job τ → Tree τ) : Job τ → Prop
  | .code cx c s K => (rec (.code cx c s K)).sat ρ Post → ∀ R b a w, b.fn = cx.fn → b.kind = .normal → RoundRel R cx.round b.roundOf → Now ρ G R noD s a w →
      ∀ k cs, CodeRes P ρ G R s.m w b k cs (lone (b.atR a (.code c :: k)) cs w) fun e s' => (K e s').sat ρ Post
  | .call f args m K => (rec (.call f args m K)).sat ρ Post → ∀ R w (us : Array Value), MemInv ρ R m w → GlobOk R G → VRels ρ R args us.toList →
      ∃ nx w1, (callFunc f us).run P w = .ok nx w1 ∧ NextOk P nx w1 (CallRes ρ R m w fun v m' => (K v m').sat ρ Post)
  | .round l args m K => (rec (.round l args m K)).sat ρ Post → ∀ R w (us : Array Value) bl, R.blk l = some bl → MemInv ρ R m w → GlobOk R G → VRels ρ R args us.toList →
      ∃ nx w1, (Instr.yield bl us).run P w = .ok nx w1 ∧ NextOk P nx w1 (CallRes ρ R m w fun v m' => (K v m').sat ρ Post)

variable {rec : Job τ → Tree τ}

theorem doCall_ok (hrec : ∀ j, JOk P G ρ Post rec j) {t : Option Tgt} {m : AM} {fn : Nat} {pos : String} {K : AVal → AM → Tree τ} {R : Rl} {w : World} {tgt : Tgt} {d : Deferred} (hsat : (doCall rec t m fn pos K).sat ρ Post) (ht : t = some tgt) (hd : TgtRel P ρ R w tgt d)
    (hi : MemInv ρ R m w) (hG : GlobOk R G) : ∃ nx w1, (invoke d.target d.args).run P w = .ok nx w1 ∧ NextOk P nx w1 (CallRes ρ R m w fun v m' => (K v m').sat ρ Post) := by
  subst ht
  cases tgt with
  | fn f args =>
    obtain ⟨us, hus, hrun⟩ := hd
    rw [hrun]
    exact hrec (.call f args m K) hsat R w us hi hG hus
  | yield l args =>
    obtain ⟨bl, us, hb, hus, hrun⟩ := hd
    rw [hrun]
    exact hrec (.round l args m K) hsat R w us bl hb hi hG hus

theorem doEff_ok (hrec : ∀ j, JOk P G ρ Post rec j) {cx : Cx} {s : AS} {o : Oper} {K : AS → Tree τ} {R : Rl} {D : Nat → Prop} {ops : Array Oper} {a : Act} {w : World} (hsat : (doEff P G rec cx s o K).sat ρ Post) (hn : Now ρ G R D s a w) (hc : Clear D ops o) :
    ∃ nx w1, (execOp a.eval o).run P w = .ok nx w1 ∧ NextOk P nx w1 (CallRes ρ R s.m w fun v m' => (K ((s.mem m').put o.dst v)).sat ρ Post) := by
  have he := evOk_of hn hc
  unfold doEff at hsat
  split at hsat
  · rename_i v m' hp
    obtain ⟨R', nx, u, w', h1, h2, h3, h4, h5⟩ := eff_ok hn.mem he hp
    refine ⟨nx, w', h1, ?_⟩
    rcases h2 with rfl | ⟨rfl, rfl⟩
    · exact ⟨R', v, m', h3, h4, h5, hsat⟩
    · exact ⟨R', v, m', h3, h4, h5, hsat⟩
  · split at hsat
    · exact hsat.elim
    · rename_i c hnb hop
      obtain ⟨dst, op, type, pos, after, guard⟩ := o
      simp only at hop hsat he
      subst hop
      cases ht : resolveA P (evA G s.tm) c with
      | none => rw [ht] at hsat; exact hsat.elim
      | some tgt =>
        obtain ⟨d, hd1, hd2⟩ := resolve_ok (P := P) (w := w) (ty := type) (σ := a.eval) he ht
        rw [ht] at hsat
        obtain ⟨nx, w1, q1, q2⟩ := doCall_ok hrec hsat rfl hd2 hn.mem hn.glob
        refine ⟨nx, w1, ?_, q2⟩
        show ((do let d ← resolve a.eval c type; invoke d.target d.args) : Sem Next).run P w = _
        simp only [Sem.run_bind, hd1, Result.andThen_ok, q1]
    · exact hsat.elim

theorem needs_sat {l : List BE} {t : Tree τ} (h : (Tree.needs l t).sat ρ Post) : Needs ρ l ∧ t.sat ρ Post := by
  induction l with
  | nil => exact ⟨fun b hb => by simp at hb, h⟩
  | cons c l ih =>
    unfold Tree.needs at h
    split at h
    · obtain ⟨h1, h2⟩ := ih h
      refine ⟨fun b hb => ?_, h2⟩
      rcases List.mem_cons.1 hb with rfl | hb
      · rfl
      · exact h1 b hb
    · obtain ⟨h0, h⟩ := h
      obtain ⟨h1, h2⟩ := ih h
      refine ⟨fun b hb => ?_, h2⟩
      rcases List.mem_cons.1 hb with rfl | hb
      · exact h0
      · exact h1 b hb

theorem doOp_ok (hrec : ∀ j, JOk P G ρ Post rec j) {cx : Cx} {s : AS} {o : Oper} {K : AS → Tree τ} {R : Rl} {D : Nat → Prop} {ops : Array Oper} {a : Act} {w : World} (hsat : (doOp P G rec cx s o K).sat ρ Post) (hn : Now ρ G R D s a w) (hc : Clear D ops o) :
    (∃ nx w1, (execOp a.eval o).run P w = .ok nx w1 ∧ NextOk P nx w1 (CallRes ρ R s.m w fun v m' => (K ((s.mem m').put o.dst v)).sat ρ Post)) ∧ ∀ c, o.op ≠ .defer c := by
  unfold doOp at hsat
  rw [isEffF_eq, peekF_eq] at hsat
  split at hsat
  · rename_i he
    exact ⟨doEff_ok hrec hsat hn hc, fun c e => by rw [e] at he; simp [isEff] at he⟩
  · split at hsat
    · rename_i l r hp
      obtain ⟨h1, h2⟩ := needs_sat hsat
      refine ⟨?_, fun c e => by rw [e] at hp; simp [peek] at hp⟩
      have := peek_ok hn.mem.ok (evOk_of hn hc) hp h1
      cases r with
      | val v =>
        obtain ⟨u, q1, q2⟩ := this
        exact ⟨.value u, w, q1, R, v, s.m, q2, hn.mem, MStep.refl _ _ _, h2⟩
      | new x mk =>
        obtain ⟨u, w', ob, c, q1, q2, q3, q4⟩ := this
        obtain ⟨q5, q6⟩ := q4 s.m.nx (hn.mem.fresh _ (Nat.le_refl _))
        exact ⟨.value u, w', q1, R.push s.m.nx w.heap.size c, mk.val s.m.nx, s.m.push x, q6, hn.mem.push c q2 q5, MStep.push x c q2 q3, h2⟩
    · exact hsat.elim

theorem stepOp_ok (hrec : ∀ j, JOk P G ρ Post rec j) {cx : Cx} {s : AS} {o : Oper} {K : AS → Tree τ} {R : Rl} {D : Nat → Prop} {ops : Array Oper} {a : Act} {w : World} {b : Frame} {i : Nat} {rest : List Nat} {k : List Item} {cs : List Frame}
    (ho : ops[i]? = some o) (hsat : (stepOp P G rec cx ops s o K).sat ρ Post) (hn : Now ρ G R D s a w) (hc : Clear D ops o) :
    ∃ R' s' a' w', Now ρ G R' D s' a' w' ∧ MStep R s.m w R' s'.m w' ∧ (K s').sat ρ Post ∧
      Steps P (lone (b.atR a (.inRegion ops (i :: rest) :: k)) cs w) (lone (b.atR a' (.inRegion ops rest :: k)) cs w') := by
  have hw := want_ok hn hc
  have skip : Region.wanted o (yielded ops a.tmps) = false → (K (s.put o.dst AVal.undef)).sat ρ Post →
      ∃ R' s' a' w', Now ρ G R' D s' a' w' ∧ MStep R s.m w R' s'.m w' ∧ (K s').sat ρ Post ∧
        Steps P (lone (b.atR a (.inRegion ops (i :: rest) :: k)) cs w) (lone (b.atR a' (.inRegion ops rest :: k)) cs w') := by
    intro hno hk
    have hm : (s.put o.dst AVal.undef).m = s.m := by
      unfold AS.put; split
      · rfl
      · split <;> rfl
    refine ⟨R, s.put o.dst AVal.undef, a.put o.dst Go.undef, w, hn.put _ (VRel.undef _ _), by rw [hm]; exact MStep.refl _ _ _, hk, .one ?_⟩
    have := stepR_op_skip (P := P) (b := b) (a := a) (k := k) (cs := cs) (w := w) (ops := ops) (i := i) (rest := rest) (by simp [ho, hno])
    rw [this]; simp [ho]
  have run : Region.wanted o (yielded ops a.tmps) = true → (doOp P G rec cx s o K).sat ρ Post →
      ∃ R' s' a' w', Now ρ G R' D s' a' w' ∧ MStep R s.m w R' s'.m w' ∧ (K s').sat ρ Post ∧
        Steps P (lone (b.atR a (.inRegion ops (i :: rest) :: k)) cs w) (lone (b.atR a' (.inRegion ops rest :: k)) cs w') := by
    intro hyes hd
    obtain ⟨⟨nx, w1, h1, h2⟩, hnd⟩ := doOp_ok hrec hd hn hc
    have hg := stepGR_op (P := P) (b := b) (a := a) (k := k) (cs := cs) (w := w) (rest := rest) ho hyes
    rw [Oper.semAt_eq _ _ _ hnd] at hg
    obtain ⟨u, w', ⟨R', v, m', hv, hi', hs', hk'⟩, hsteps⟩ := apply_next (congrArg GStep.bare hg) (by intro d r x k'; simp [Frame.atR]) h1 h2
    have hnow := (hn.mem' hi' hs').put o.dst hv
    have hm : ((s.mem m').put o.dst v).m = m' := by
      unfold AS.put; split
      · rfl
      · split <;> rfl
    refine ⟨R', (s.mem m').put o.dst v, a.put o.dst u, w', hnow, by rw [hm]; exact hs', hk', ?_⟩
    rw [Frame.finish_atR, ho] at hsteps
    exact hsteps
  unfold stepOp at hsat
  split at hsat
  · rename_i hq; rw [hq] at hw; exact run hw hsat
  · rename_i hq; rw [hq] at hw; exact skip hw hsat
  · rename_i c hq
    rw [hq] at hw
    simp only [Tree.sat] at hsat
    split at hsat
    · rename_i hcd; exact run (by rw [hw, hcd]; rfl) hsat
    · rename_i hcd; exact skip (by rw [hw, Bool.eq_false_iff.2 hcd]; rfl) hsat
  · rename_i c hq
    rw [hq] at hw
    simp only [Tree.sat] at hsat
    split at hsat
    · rename_i hcd; exact skip (by rw [hw, hcd]; rfl) hsat
    · rename_i hcd; exact run (by rw [hw, Bool.eq_false_iff.2 hcd]; rfl) hsat

theorem clear_noD (ops : Array Oper) (o : Oper) : Clear noD ops o := fun _ _ h => h

theorem runOps_ok (hrec : ∀ j, JOk P G ρ Post rec j) {cx : Cx} {ops : Array Oper} {b : Frame} {k : List Item} {cs : List Frame} {K : AS → Tree τ} : ∀ (l : List Oper) (i : Nat) (s : AS) (R : Rl) (a : Act) (w : World), ops.toList.drop i = l →
    (runOps P G rec cx ops l s K).sat ρ Post → Now ρ G R noD s a w →
    ∃ R' s' a' w', Now ρ G R' noD s' a' w' ∧ MStep R s.m w R' s'.m w' ∧ (K s').sat ρ Post ∧
      Steps P (lone (b.atR a (.inRegion ops (List.range' i l.length) :: k)) cs w) (lone (b.atR a' k) cs w')
  | [], i, s, R, a, w, _, hsat, hn => ⟨R, s, a, w, hn, MStep.refl _ _ _, hsat, .one stepR_region_end⟩
  | o :: l, i, s, R, a, w, hd, hsat, hn => by
    have ho : ops[i]? = some o := by
      have := congrArg (·[0]?) hd
      simp only [List.getElem?_drop, Nat.add_zero, List.getElem?_cons_zero] at this
      rw [← Array.getElem?_toList]; exact this
    have hd' : ops.toList.drop (i + 1) = l := by
      rw [← List.drop_drop, hd]; rfl
    obtain ⟨R1, s1, a1, w1, h1, h2, h3, h4⟩ := stepOp_ok hrec (b := b) (i := i) (rest := List.range' (i + 1) l.length) (k := k) (cs := cs) ho hsat hn (clear_noD _ _)
    obtain ⟨R2, s2, a2, w2, g1, g2, g3, g4⟩ := runOps_ok hrec l (i + 1) s1 R1 a1 w1 hd' h3 h1
    exact ⟨R2, s2, a2, w2, g1, h2.trans g2, g3, by rw [List.length_cons, List.range'_succ]; exact h4.trans g4⟩
end
end Go.Sx
