/-
  The abstract executor, part S: code.
  No condition: definitions and lemmas.
-/
import Derived.Test.YtioclaoooghllaaGreatDoorSxR
namespace Go.Sx
open Go.Instr

section
variable {P : Program} {G : Nat} {ρ : Env} {τ : Type} {Post : τ → Prop}

theorem Steps.back {M M1 M' : Machine} (h : step P M = .next M1) (h' : Steps P M M') (hne : M ≠ M') : Steps P M1 M' := by
  obtain ⟨n, hn⟩ := h'
  cases n with
  | zero => simp only [runN, Stepped.next.injEq] at hn; exact (hne hn).elim
  | succ n => exact ⟨n, by simpa [runN, h] using hn⟩

theorem stepR_scope {b : Frame} {a : Act} {k : List Item} {cs : List Frame} {w : World} {c : Code} :
    step P (lone (b.atR a (.code (.scope c) :: k)) cs w) = .next (lone (b.atR a (.code c :: .inScope c :: k)) cs w) :=
  step_lone_go (by simp [stepG, stepG.exec, Frame.atR])
theorem stepR_inScope {b : Frame} {a : Act} {k : List Item} {cs : List Frame} {w : World} {c : Code} :
    step P (lone (b.atR a (.inScope c :: k)) cs w) = .next (lone (b.atR a k) cs w) :=
  step_lone_go (by simp [stepG, stepG.exec, Frame.atR])

theorem lone_todo {b : Frame} {a a' : Act} {x y : List Item} {cs : List Frame} {w w' : World} (h : lone (b.atR a x) cs w = lone (b.atR a' y) cs w') : x = y := by
  simp only [lone, Machine.mk.injEq] at h
  have h2 := h.2.1
  simp [Frame.atR] at h2
  exact h2.2.1

/-- From the head of a loop, one step on. -/
theorem Arr.back {b : Frame} {a0 a : Act} {k : List Item} {cs : List Frame} {w0 w : World} {c : Code} {M1 : Machine} {e : AEx} (h : step P (lone (b.atR a0 (.code (.loop c) :: k)) cs w0) = .next M1)
    (ha : Arr P (lone (b.atR a0 (.code (.loop c) :: k)) cs w0) b k cs e a w) : Arr P M1 b k cs e a w := by
  cases e with
  | normal =>
    refine Steps.back h ha (fun e => ?_)
    have := congrArg List.length (lone_todo e)
    simp at this
  | exit id =>
    obtain ⟨k', h1, h2⟩ := ha
    exact ⟨k', h1, Steps.back h h2 (fun e => by have := lone_todo e; simp at this)⟩
  | ret =>
    obtain ⟨k', h2⟩ := ha
    exact ⟨k', Steps.back h h2 (fun e => by have := lone_todo e; simp at this)⟩

variable {rec : Job τ → Tree τ}

theorem CodeRes.trans_steps {R : Rl} {m : AM} {w : World} {b : Frame} {k : List Item} {cs : List Frame} {M M1 : Machine} {S : AEx → AS → Prop} (h : Steps P M M1) (h' : CodeRes P ρ G R m w b k cs M1 S) : CodeRes P ρ G R m w b k cs M S := by
  obtain ⟨e, R', s', a', w', h1, h2, h3, h4⟩ := h'
  exact ⟨e, R', s', a', w', h1, h2, h3, .of_steps h h4⟩

theorem CodeRes.after {R R1 : Rl} {m m1 : AM} {w w1 : World} {b : Frame} {k : List Item} {cs : List Frame} {M : Machine} {S : AEx → AS → Prop} (h : MStep R m w R1 m1 w1) (h' : CodeRes P ρ G R1 m1 w1 b k cs M S) : CodeRes P ρ G R m w b k cs M S := by
  obtain ⟨e, R', s', a', w', h1, h2, h3, h4⟩ := h'
  exact ⟨e, R', s', a', w', h1, h.trans h2, h3, h4⟩

/-- What a range over a function does with the loop's record laid. -/
def rangeGo (G : Nat) (rec : Job τ → Tree τ) (cx : Cx) (f : Operand) (s : AS) (K : AEx → AS → Tree τ) (marks : List Nat) (m : AM) (l : Nat) : Tree τ :=
  doCall rec (match evA G s.tm f with
    | some (.func (.conc (.func fid)) first captured) => some (.fn fid (first ++ [.func (.yield l) [] []] ++ captured))
    | _ => none) m cx.fn "range" fun _ m =>
    match m.h.get l with
    | some (.loop .busy _ _ _ _ _ _ _ _) => .stuck "busy" cx.fn "range"
    | some (.loop _ pe fn nt tm ps as bd df) =>
      let s' : AS := ⟨s.nt, s.tm, marks, m.upd l (.loop .exhausted pe fn nt tm ps as bd df)⟩
      match pe with
      | none => K .normal s'
      | some .ret => K .ret s'
      | some (.exit id) => K (.exit id) s'
      | _ => .stuck "jump" cx.fn "range"
    | _ => .stuck "loop" cx.fn "range"

theorem rangeGo_ok (hrec : ∀ j, JOk P G ρ Post rec j) {cx : Cx} {f : Operand} {ps : Array Tmp} {as bd : Code} {s : AS} {K : AEx → AS → Tree τ} {marks : List Nat} {m : AM} {l bl : Nat} {R R2 : Rl} {b : Frame} {a : Act} {w w2 : World} {mark : List Deferred} {k : List Item} {cs : List Frame}
    (hsat : (rangeGo G rec cx f s K marks m l).sat ρ Post) (hn : Now ρ G R noD s a w) (hi : MemInv ρ R2 m w2) (hs : MStep R s.m w R2 m w2) (hl : R2.blk l = some bl) (hlt : l < m.nx) (hm : MarksRel R2 marks (mark ++ a.defers))
    (he : (Instr.enterLoop b.fn a.tmps ps as bd b.roundOf).run P w = .ok (bl, mark) w2) :
    CodeRes P ρ G R s.m w b k cs (lone (b.atR a (.code (.rangeFunc f ps as bd) :: k)) cs w) fun e s' => (K e s').sat ρ Post := by
  have hle := hs.le hn.mem
  have hev : ∀ v, evA G s.tm f = some v → VRel ρ R v (a.eval f) := fun v hv => evA_ok hn (fun _ _ h => h) hv
  unfold rangeGo doCall at hsat
  split at hsat
  · rename_i fid args ht
    split at ht
    · rename_i fid' first captured hq
      cases ht
      obtain ⟨g, fs, cs', hg, hval, h1, h2⟩ := hev _ hq
      cases hg
      let us : Array Value := (fs ++ #[.func (.yield bl) #[] #[]]) ++ cs'
      have hus : VRels ρ R2 (first ++ [.func (.yield l) [] []] ++ captured) us.toList := by
        have hy : VRels ρ R2 [AVal.func (.yield l) [] []] [Value.func (.yield bl) #[] #[]] := VRels.cons ⟨.yield bl, #[], #[], ⟨bl, hl, rfl⟩, rfl, rfl, rfl⟩ .nil
        have := ((h1.mono hle _ _).append hy).append (h2.mono hle _ _)
        simpa [us] using this
      obtain ⟨nx, w1, q1, q2⟩ := hrec (.call fid _ m _) hsat R2 w2 us hi (hn.glob.mono hle) hus
      let fr' := b.atR { a with defers := mark ++ a.defers } (.inRangeFunc bl :: k)
      have hev' := Frame.eval_atR b { a with defers := mark ++ a.defers } (.inRangeFunc bl :: k)
      have hres : (resolve a.eval (rangeCall f bl) 0).run P w2 = .ok { target := .fn (.func fid) cs', args := fs ++ #[.func (.yield bl) #[] #[]] } w2 := by
        have hmap : (#[Operand.const (.func (.yield bl) #[] #[])] : Array Operand).map a.eval = #[.func (.yield bl) #[] #[]] := by simp [Act.eval]
        simp only [resolve, hval, Deferred.ofValue]
        rw [hmap]
        rfl
      have hsem : (do let d ← resolve a.eval (rangeCall f bl) 0; invoke d.target d.args : Sem Next).run P w2 = .ok nx w1 := by
        simp only [Sem.run_bind, hres, Result.andThen_ok]
        exact q1
      have hg : (stepG P true { frame := b.atR a (.code (.rangeFunc f ps as bd) :: k), callers := cs, status := .running, dying := none } w).bare =
          (stepG.apply P true fr' cs none (do let d ← resolve a.eval (rangeCall f bl) 0; invoke d.target d.args) w2).bare := by
        have hea : ({ tmps := a.tmps, defers := mark ++ a.defers } : Act).eval = a.eval := by funext x; cases x <;> rfl
        simp only [Frame.atR] at hev'
        simp [stepG, stepG.exec, Frame.atR, Sem.runT_eq, he, GStep.bare_after, hev', hea, fr']
      obtain ⟨u, w3, ⟨R3, v, m3, hv3, hi3, hs3, hk3⟩, hsteps⟩ := apply_next hg (by intro d r x k'; simp [fr', Frame.atR]) hsem q2
      have hl3 : R3.blk l = some bl := (hs3.ext l hlt).1.trans hl
      have hle3 := hs3.le hi
      rw [finish_atR_inRangeFunc] at hsteps
      dsimp only at hk3
      split at hk3
      · exact hk3.elim
      · rename_i st pe fn nt tm ps' as' bd' df hnb hget
        obtain ⟨o, ho, lo, rfl, e1, e2, e3, e4, e5, e6, e7, e8⟩ := hi3.ok l _ bl hget hl3
        have hne : lo.state ≠ .busy := by
          rw [e1]; intro e; subst e; exact hnb rfl
        have hend := run_endLoop (P := P) ho hne
        have hi4 : MemInv ρ R3 (m3.upd l (.loop .exhausted pe fn nt tm ps' as' bd' df)) (w3.putObj bl (.loop { lo with state := .exhausted })) :=
          hi3.upd hget hl3 ⟨{ lo with state := .exhausted }, rfl, rfl, e2, e3, e4, e5, e6, e7, e8⟩
        have hs4 := hs3.trans (MStep.upd (.loop .exhausted pe fn nt tm ps' as' bd' df) hget rfl hl3 (.loop { lo with state := .exhausted }))
        have hsteps2 := hsteps.trans (.one (stepR_endRangeFunc (P := P) (b := b) (a := { a with defers := mark ++ a.defers }) (k := k) (cs := cs) hend))
        have hnow : Now ρ G R3 noD ⟨s.nt, s.tm, marks, m3.upd l (.loop .exhausted pe fn nt tm ps' as' bd' df)⟩ { a with defers := mark ++ a.defers } (w3.putObj bl (.loop { lo with state := .exhausted })) :=
          ⟨hi4, (hn.glob.mono hle).mono hle3, (hn.tm.mono hle).mono hle3, hm.mono hle3⟩
        have hst := hs.trans hs4
        have hj : (lo.pending.map Item.code).toList = (pe.map Item.code).toList := by rw [e2]
        rw [hj] at hsteps2
        split at hk3
        · exact ⟨.normal, R3, _, _, _, hnow, hst, hk3, hsteps2⟩
        · exact ⟨.ret, R3, _, _, _, hnow, hst, hk3, k, hsteps2⟩
        · exact ⟨.exit _, R3, _, _, _, hnow, hst, hk3, k, rfl, hsteps2⟩
        · exact hk3.elim
      · exact hk3.elim
    · cases ht
  · rename_i ht
    split at ht
    · cases ht
    · cases ht
  · exact hsat.elim

theorem stepCode_ok (hrec : ∀ j, JOk P G ρ Post rec j) (hmix : P.follows .mixedOrders = true) {cx : Cx} {c : Code} {s : AS} {K : AEx → AS → Tree τ} (hsat : (stepCode P G rec cx c s K).sat ρ Post) :
    ∀ R b a w, b.fn = cx.fn → b.kind = .normal → RoundRel R cx.round b.roundOf → Now ρ G R noD s a w →
      ∀ k cs, CodeRes P ρ G R s.m w b k cs (lone (b.atR a (.code c :: k)) cs w) fun e s' => (K e s').sat ρ Post := by
  intro R b a w hfn hkind hround hn k cs
  cases c with
  | skip => exact ⟨.normal, R, s, a, w, hn, MStep.refl _ _ _, hsat, .one stepR_skip⟩
  | label l => exact ⟨.normal, R, s, a, w, hn, MStep.refl _ _ _, hsat, .one stepR_label⟩
  | exit id => exact ⟨.exit id, R, s, a, w, hn, MStep.refl _ _ _, hsat, k, rfl, .refl _ _⟩
  | ret => exact ⟨.ret, R, s, a, w, hn, MStep.refl _ _ _, hsat, k, .refl _ _⟩
  | goto l => exact hsat.elim
  | refuse why => exact hsat.elim
  | seq x y =>
    obtain ⟨e, R1, s1, a1, w1, h1, h2, h3, h4⟩ := hrec (.code cx x s _) hsat R b a w hfn hkind hround hn (.code y :: k) cs
    cases e with
    | normal =>
      refine .trans_steps (.trans (.one stepR_seq) h4) (.after h2 ?_)
      exact hrec (.code cx y s1 K) h3 R1 b a1 w1 hfn hkind (hround.mono (h2.le hn.mem)) h1 k cs
    | exit id =>
      obtain ⟨k', g1, g2⟩ := h4
      exact ⟨.exit id, R1, s1, a1, w1, h1, h2, h3, k', by rw [g1]; rfl, .head stepR_seq g2⟩
    | ret =>
      obtain ⟨k', g2⟩ := h4
      exact ⟨.ret, R1, s1, a1, w1, h1, h2, h3, k', .head stepR_seq g2⟩
  | cond c x y =>
    have hev : ∀ v, evA G s.tm c = some v → VRel ρ R v (a.eval c) := fun v hv => evA_ok hn (fun _ _ h => h) hv
    simp only [stepCode] at hsat
    split at hsat
    · rename_i hq
      have := VRel_bool (hev _ hq)
      exact .trans_steps (.one (stepR_cond (t := true) this)) (hrec (.code cx x s K) hsat R b a w hfn hkind hround hn k cs)
    · rename_i hq
      have := VRel_bool (hev _ hq)
      exact .trans_steps (.one (stepR_cond (t := false) this)) (hrec (.code cx y s K) hsat R b a w hfn hkind hround hn k cs)
    · rename_i q h1 h2 hq
      have := VRel_bool (hev _ hq)
      simp only [Tree.sat] at hsat
      split at hsat
      · rename_i hc
        rw [hc] at this
        exact .trans_steps (.one (stepR_cond (t := true) this)) (hrec (.code cx x s K) hsat R b a w hfn hkind hround hn k cs)
      · rename_i hc
        rw [Bool.eq_false_iff.2 hc] at this
        exact .trans_steps (.one (stepR_cond (t := false) this)) (hrec (.code cx y s K) hsat R b a w hfn hkind hround hn k cs)
    · exact hsat.elim
  | block id c =>
    obtain ⟨e, R1, s1, a1, w1, h1, h2, h3, h4⟩ := hrec (.code cx c s _) hsat R b a w hfn hkind hround hn (.inBlock id :: k) cs
    cases e with
    | normal => exact ⟨.normal, R1, s1, a1, w1, h1, h2, h3, .head stepR_block (Steps.trans h4 (.one stepR_inBlock))⟩
    | exit i =>
      obtain ⟨k', g1, g2⟩ := h4
      simp only at h3
      split at h3
      · rename_i hi
        obtain rfl := Nat.eq_of_beq_eq_true hi
        refine ⟨.normal, R1, s1, a1, w1, h1, h2, h3, .head stepR_block (g2.trans (.one (stepR_exit ?_)))⟩
        rw [g1]; simp [exitTo]
      · rename_i hi
        have hi' : (id == i) = false := by
          rw [Bool.eq_false_iff]; intro e
          rw [eq_of_beq e] at hi; simp at hi
        exact ⟨.exit i, R1, s1, a1, w1, h1, h2, h3, k', by rw [g1]; simp [exitTo, hi'], .head stepR_block g2⟩
    | ret =>
      obtain ⟨k', g2⟩ := h4
      exact ⟨.ret, R1, s1, a1, w1, h1, h2, h3, k', .head stepR_block g2⟩
  | loop c =>
    obtain ⟨e, R1, s1, a1, w1, h1, h2, h3, h4⟩ := hrec (.code cx c s _) hsat R b a w hfn hkind hround hn (.inLoop c :: k) cs
    cases e with
    | normal =>
      obtain ⟨e2, R2, s2, a2, w2, q1, q2, q3, q4⟩ := hrec (.code cx (.loop c) s1 K) h3 R1 b a1 w1 hfn hkind (hround.mono (h2.le hn.mem)) h1 k cs
      have q5 := Arr.back (stepR_loop (P := P)) q4
      exact ⟨e2, R2, s2, a2, w2, q1, h2.trans q2, q3, .of_steps (.head stepR_loop (Steps.trans h4 (.one stepR_inLoop))) q5⟩
    | exit id =>
      obtain ⟨k', g1, g2⟩ := h4
      exact ⟨.exit id, R1, s1, a1, w1, h1, h2, h3, k', by rw [g1]; rfl, .head stepR_loop g2⟩
    | ret =>
      obtain ⟨k', g2⟩ := h4
      exact ⟨.ret, R1, s1, a1, w1, h1, h2, h3, k', .head stepR_loop g2⟩
  | scope c =>
    obtain ⟨e, R1, s1, a1, w1, h1, h2, h3, h4⟩ := hrec (.code cx c s K) hsat R b a w hfn hkind hround hn (.inScope c :: k) cs
    cases e with
    | normal => exact ⟨.normal, R1, s1, a1, w1, h1, h2, h3, .head stepR_scope (Steps.trans h4 (.one stepR_inScope))⟩
    | exit id =>
      obtain ⟨k', g1, g2⟩ := h4
      exact ⟨.exit id, R1, s1, a1, w1, h1, h2, h3, k', by rw [g1]; rfl, .head stepR_scope g2⟩
    | ret =>
      obtain ⟨k', g2⟩ := h4
      exact ⟨.ret, R1, s1, a1, w1, h1, h2, h3, k', .head stepR_scope g2⟩
  | region id ops dr =>
    cases dr with
    | false =>
      obtain ⟨R', s', a', w', h1, h2, h3, h4⟩ := runOps_ok hrec (b := b) (k := k) (cs := cs) ops.toList 0 s R a w rfl hsat hn
      refine ⟨.normal, R', s', a', w', h1, h2, h3, .head stepR_region ?_⟩
      rw [List.range_eq_range', ← Array.length_toList]
      exact h4
    | true =>
      obtain ⟨R', s', a', w', h1, h2, h3, h4⟩ := drawn_ok hrec hmix (b := b) (k := k) (cs := cs) (id := id) hsat hn
      exact ⟨.normal, R', s', a', w', h1, h2, h3, h4⟩
  | rangeFunc f ps as bd =>
    simp only [stepCode] at hsat
    split at hsat
    · rename_i hr
      have hro : b.roundOf = none := by rw [hr] at hround; exact hround
      have he := run_enterLoop_outer (P := P) (w := w) b.fn a.tmps ps as bd
      rw [← hro] at he
      have hi1 : MemInv ρ (R.push s.m.nx w.heap.size 0) (s.m.push .deferred) (w.alloc (.deferred (some []))) := hn.mem.push 0 rfl rfl
      have hs1 : MStep R s.m w (R.push s.m.nx w.heap.size 0) (s.m.push .deferred) (w.alloc (.deferred (some []))) := MStep.push _ _ rfl ⟨rfl, rfl, rfl⟩
      have hle1 := hs1.le hn.mem
      have hsz : (w.alloc (.deferred (some []))).heap.size = w.heap.size + 1 := World.size_alloc ..
      have hfr : (R.push s.m.nx w.heap.size 0).blk (s.m.push .deferred).nx = none := hi1.fresh _ (Nat.le_refl _)
      have hle2 : (R.push s.m.nx w.heap.size 0).le ((R.push s.m.nx w.heap.size 0).push (s.m.push .deferred).nx (w.alloc (.deferred (some []))).heap.size 0) := Rl.push_le _ _ hfr
      have hi2 := hi1.push (x := .loop .ready none cx.fn s.nt s.tm ps.toList as bd s.m.nx)
        (o := .loop { state := .ready, pending := none, fn := b.fn, tmps := a.tmps, params := ps, assign := as, body := bd, defers := w.heap.size })
        (w' := (w.alloc (.deferred (some []))).alloc (.loop { state := .ready, pending := none, fn := b.fn, tmps := a.tmps, params := ps, assign := as, body := bd, defers := w.heap.size })) 0 rfl
        ⟨_, rfl, rfl, rfl, hfn, (TmRelD.full.1 ((hn.tm.mono hle1).mono hle2)), rfl, rfl, rfl, (hle2 _ _ (Rl.push_blk _ _ _ _)).1⟩
      have hs2 := hs1.trans (MStep.push (R := R.push s.m.nx w.heap.size 0) (m := s.m.push .deferred) (w := w.alloc (.deferred (some []))) (.loop .ready none cx.fn s.nt s.tm ps.toList as bd s.m.nx)
        (o := .loop { state := .ready, pending := none, fn := b.fn, tmps := a.tmps, params := ps, assign := as, body := bd, defers := w.heap.size })
        (w' := (w.alloc (.deferred (some []))).alloc (.loop { state := .ready, pending := none, fn := b.fn, tmps := a.tmps, params := ps, assign := as, body := bd, defers := w.heap.size })) 0 rfl ⟨rfl, rfl, rfl⟩)
      refine rangeGo_ok hrec hsat hn hi2 hs2 (bl := w.heap.size + 1) ?_ ?_ ?_ he
      · rw [← hsz]; exact Rl.push_blk _ _ _ _
      · simp [AM.push]
      · exact ⟨w.heap.size, a.defers, rfl, (hle2 _ _ (Rl.push_blk _ _ _ _)).1, (hn.marks.mono hle1).mono hle2⟩
    · rename_i l0 hr
      rw [hr] at hround
      obtain ⟨bl0, hb0, hro⟩ := hround
      split at hsat
      · rename_i st pe fn nt tm ps0 as0 bd0 df hget
        obtain ⟨o, ho, lo, rfl, e1, e2, e3, e4, e5, e6, e7, e8⟩ := hn.mem.ok l0 _ bl0 hget hb0
        have he := run_enterLoop_inner (P := P) ho b.fn a.tmps ps as bd
        rw [← hro] at he
        have hfr : R.blk s.m.nx = none := hn.mem.fresh _ (Nat.le_refl _)
        have hle2 : R.le (R.push s.m.nx w.heap.size 0) := Rl.push_le _ _ hfr
        have hi2 := hn.mem.push (x := .loop .ready none cx.fn s.nt s.tm ps.toList as bd df)
          (o := .loop { state := .ready, pending := none, fn := b.fn, tmps := a.tmps, params := ps, assign := as, body := bd, defers := lo.defers })
          (w' := w.alloc (.loop { state := .ready, pending := none, fn := b.fn, tmps := a.tmps, params := ps, assign := as, body := bd, defers := lo.defers })) 0 rfl
          ⟨_, rfl, rfl, rfl, hfn, (TmRelD.full.1 (hn.tm.mono hle2)), rfl, rfl, rfl, (hle2 _ _ e8).1⟩
        have hs2 : MStep R s.m w (R.push s.m.nx w.heap.size 0) (s.m.push (.loop .ready none cx.fn s.nt s.tm ps.toList as bd df)) (w.alloc (.loop { state := .ready, pending := none, fn := b.fn, tmps := a.tmps, params := ps, assign := as, body := bd, defers := lo.defers })) :=
          MStep.push _ _ rfl ⟨rfl, rfl, rfl⟩
        refine rangeGo_ok hrec hsat hn hi2 hs2 (bl := w.heap.size) (Rl.push_blk _ _ _ _) (by simp [AM.push]) ?_ he
        exact hn.marks.mono hle2
      · exact hsat.elim
end
end Go.Sx
