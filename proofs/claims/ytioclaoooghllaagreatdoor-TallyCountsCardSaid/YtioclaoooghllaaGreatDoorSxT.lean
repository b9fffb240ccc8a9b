/-
  The abstract executor, part T: calls, rounds, and the whole.
  No condition: definitions and lemmas.
-/
import Derived.Test.YtioclaoooghllaaGreatDoorSxS
namespace Go.Sx
open Go.Instr

section
variable {P : Program} {G : Nat} {ρ : Env} {τ : Type} {Post : τ → Prop}

/-! ### A frame begun, and left -/
theorem tmv_ofL (args : List AVal) (t : Nat) : tmv (Tr.ofL args 0 .nil) t = (args[t]?).getD AVal.undef := by
  unfold tmv
  rw [Tr.get_ofL]
  by_cases h : t < args.length
  · rw [if_pos (by omega)]
    simp [h]
  · rw [if_neg (by omega)]
    simp [List.getElem?_eq_none (Nat.le_of_not_lt h)]

theorem TmRel.begin {R : Rl} {args : List AVal} {us : Array Value} (h : VRels ρ R args us.toList) (n : Nat) :
    TmRel ρ R (Nat.max args.length n) (Tr.ofL args 0 .nil) (us ++ Array.replicate (n - us.size) Go.undef) := by
  have hl := h.length
  simp only [Array.length_toList] at hl
  refine ⟨?_, fun t => ?_⟩
  · simp only [Array.size_append, Array.size_replicate]
    show _ = max _ _
    omega
  · rw [tmv_ofL, Array.getD_eq_getD_getElem?]
    by_cases ht : t < args.length
    · obtain ⟨v, hv, hr⟩ := h.get (List.getElem?_eq_getElem ht)
      rw [Array.getElem?_toList] at hv
      rw [Array.getElem?_append_left (by omega), hv, List.getElem?_eq_getElem ht]
      exact hr
    · rw [Array.getElem?_append_right (by omega), List.getElem?_eq_none (Nat.le_of_not_lt ht)]
      simp only [Array.getElem?_replicate, Option.getD_none]
      split <;> exact VRel.undef _ _

theorem resA_ok {R : Rl} {w : World} {tm : Tr AVal} {tmps : Array Value} {h : Tr ABlk} (hh : HeapOk ρ R h w) (ht : ∀ t, VRel ρ R (tmv tm t) (tmps.getD t Go.undef)) : ∀ {rs : List ResultVar} {l : List AVal}, resA P tm h rs = some l →
    ∃ us : List Value, (rs.mapM (m := Sem) fun
      | .tmp t => pure (tmps.getD t Go.undef)
      | .cell a t => do loadVar t (← asAddr (tmps.getD a Go.undef))).run P w = .ok us w ∧ VRels ρ R l us
  | [], l, hp => by cases hp; exact ⟨[], rfl, rfl⟩
  | .tmp t :: rs, l, hp => by
    unfold resA at hp
    split at hp
    · rename_i r hr
      cases hp
      obtain ⟨us, h1, h2⟩ := resA_ok hh ht hr
      refine ⟨tmps.getD t Go.undef :: us, ?_, VRels.cons (ht t) h2⟩
      rw [List.mapM_cons]
      simp only [Sem.run_bind, Sem.run_pure, Result.andThen_ok, h1]
    · cases hp
  | .cell a t :: rs, l, hp => by
    unfold resA at hp
    split at hp
    · rename_i id off hq
      split at hp
      · rename_i v hv
        split at hp
        · rename_i r hr
          cases hp
          have := ht a
          rw [hq] at this
          obtain ⟨b, hb, hval⟩ := this
          obtain ⟨u, q1, q2⟩ := loadVar_ok (P := P) hh hb hv
          obtain ⟨us, h1, h2⟩ := resA_ok hh ht hr
          refine ⟨u :: us, ?_, VRels.cons q2 h2⟩
          rw [List.mapM_cons]
          have haddr : asAddr (.pointer (some ⟨b, off, none⟩)) = pure ⟨b, off, none⟩ := rfl
          simp only [Sem.run_bind, hval, haddr, Sem.run_pure, Result.andThen_ok, q1, h1]
        · cases hp
      · cases hp
    · cases hp

theorem results_ok {R : Rl} {w : World} {tm : Tr AVal} {tmps : Array Value} {h : Tr ABlk} {fn : Func} {l : List AVal} (hh : HeapOk ρ R h w) (ht : ∀ t, VRel ρ R (tmv tm t) (tmps.getD t Go.undef)) (hp : resA P tm h fn.results.toList = some l) :
    ∃ v, (results fn tmps).run P w = .ok v w ∧ VRel ρ R (oneA l) v := by
  obtain ⟨us, h1, h2⟩ := resA_ok (P := P) hh ht hp
  have hm : (results fn tmps).run P w = .ok (if h : us.toArray.size = 1 then us.toArray[0] else .tuple us.toArray) w := by
    unfold results
    rw [Array.mapM_eq_mapM_toList]
    simp only [Sem.run_bind, Sem.run_map]
    erw [h1]
    rfl
  refine ⟨_, hm, ?_⟩
  cases l with
  | nil =>
    simp only [VRels] at h2; subst h2
    exact ⟨#[], rfl, rfl⟩
  | cons x l =>
    obtain ⟨u, us', rfl, hu, hus⟩ := h2
    cases l with
    | nil =>
      simp only [VRels] at hus; subst hus
      exact hu
    | cons y l =>
      obtain ⟨u2, us2, rfl, hu2, hus2⟩ := hus
      rw [dif_neg (by simp)]
      exact ⟨_, rfl, VRels.cons hu (VRels.cons hu2 hus2)⟩

/-- The marks of a frame on its way out. -/
theorem closeM_ok {fr0 : Frame} {cs : List Frame} (hm : fr0.mode = .returning) : ∀ {marks : List Nat} {m m' : AM} {R : Rl} {w : World} {ds : List Deferred}, closeM marks m = some m' → MemInv ρ R m w → MarksRel R marks ds →
    ∃ w', MemInv ρ R m' w' ∧ MStep R m w R m' w' ∧ Steps P (lone { fr0 with defers := ds } cs w) (lone { fr0 with defers := [] } cs w')
  | [], m, m', R, w, ds, hp, hi, hd => by
    cases hp
    simp only [MarksRel] at hd; subst hd
    exact ⟨w, hi, MStep.refl _ _ _, .refl _ _⟩
  | d :: marks, m, m', R, w, ds, hp, hi, hd => by
    obtain ⟨b, ds', rfl, hb, hd'⟩ := hd
    unfold closeM at hp
    split at hp
    · rename_i hget
      obtain ⟨o, ho, rfl⟩ := hi.ok d _ b hget hb
      have htake := run_takeDeferred (P := P) ho
      have hi1 : MemInv ρ R (m.drop d) (w.putObj b (.deferred none)) := by
        refine ⟨fun j z hz => ?_, (hi.drop d).inj, hi.fresh⟩
        simp only [AM.drop, Tr.get_del] at hz
        by_cases ej : j = d
        · rw [if_pos ej] at hz; cases hz
        · rw [if_neg ej] at hz
          obtain ⟨b', o', hb', ho', hr'⟩ := hi.rel j z hz
          refine ⟨b', o', hb', ?_, hr'⟩
          rw [World.putObj_heap_other (fun e' => ej (hi.inj j d z _ b hz hget (by rw [hb', e']) hb))]
          exact ho'
      have hs1 : MStep R m w R (m.drop d) (w.putObj b (.deferred none)) := (MStep.upd .deferred hget rfl hb _).trans ((MStep.drop R (m.upd d .deferred) _ d).congr (fun j => by
        simp only [AM.drop, AM.upd, Tr.get_del, Tr.get_set]
        by_cases ej : j = d
        · rw [if_pos ej, if_pos ej]
        · rw [if_neg ej, if_neg ej, if_neg ej]) rfl)
      obtain ⟨w', q1, q2, q3⟩ := closeM_ok hm hp hi1 hd'
      refine ⟨w', q1, hs1.trans q2, .head ?_ q3⟩
      have := step_collected (P := P) (fr := { fr0 with defers := { target := .collected b, args := #[] } :: ds' }) (cs := cs) (by simp [hm]) rfl rfl htake
      simpa using this
    · cases hp

/-- What is asked of a function that is given by contract. -/
def PrimOk (P : Program) (G : Nat) (prim : Prim) : Prop :=
  ∀ f args m v m', prim f args m = some (v, m') → ∀ ρ R w (us : Array Value), MemInv ρ R m w → GlobOk R G → VRels ρ R args us.toList →
    ∃ nx w1, (callFunc f us).run P w = .ok nx w1 ∧ NextOk P nx w1 fun u w' => ∃ R', VRel ρ R' v u ∧ MemInv ρ R' m' w' ∧ MStep R m w R' m' w'

/-- No function with a body is the one that the model answers itself. -/
def PlainFuncs (P : Program) : Prop := ∀ (f : FuncId) (fn : Func) (c : Code), P.funcs[f]? = some fn → fn.body = some c → (fn.name == "runtime.NumGoroutine") = false

theorem run_callFunc (hpl : PlainFuncs P) {f : FuncId} {fn : Func} {c : Code} (hf : P.funcs[f]? = some fn) (hb : fn.body = some c) (us : Array Value) (w : World) : (callFunc f us).run P w = .ok (.enter f us) w := by
  have hne : ¬ fn.name = "runtime.NumGoroutine" := fun e => by
    have := hpl f fn c hf hb
    rw [e] at this; simp at this
  simp [callFunc, hf, hne, hb]

variable {rec : Job τ → Tree τ}

theorem stepCall_ok (hrec : ∀ j, JOk P G ρ Post rec j) (hpl : PlainFuncs P) {prim : Prim} (hprim : PrimOk P G prim) {f : FuncId} {args : List AVal} {m : AM} {K : AVal → AM → Tree τ} (hsat : (stepCall P rec prim f args m K).sat ρ Post) :
    ∀ R w (us : Array Value), MemInv ρ R m w → GlobOk R G → VRels ρ R args us.toList →
      ∃ nx w1, (callFunc f us).run P w = .ok nx w1 ∧ NextOk P nx w1 (CallRes ρ R m w fun v m' => (K v m').sat ρ Post) := by
  intro R w us hi hG hus
  unfold stepCall at hsat
  split at hsat
  · rename_i v m' hp
    obtain ⟨nx, w1, h1, h2⟩ := hprim f args m v m' hp ρ R w us hi hG hus
    exact ⟨nx, w1, h1, h2.mono fun u w' ⟨R', q1, q2, q3⟩ => ⟨R', v, m', q1, q2, q3, hsat⟩⟩
  · split at hsat
    · rename_i fn hf
      split at hsat
      · rename_i c hb
        refine ⟨.enter f us, w, run_callFunc hpl hf hb us w, ?_⟩
        intro cs
        let b : Frame := { (default : Frame) with fn := f, kind := .normal }
        let a : Act := { tmps := us ++ Array.replicate (fn.ntmps - us.size) Go.undef, defers := [] }
        have henter : Frame.enter P f us .normal = b.atR a [.code c] := by
          simp [Frame.enter, Frame.atR, hf, hb, b, a]
          rfl
        have hnow : Now ρ G R noD ⟨Nat.max args.length fn.ntmps, Tr.ofL args 0 .nil, [], m⟩ a w := ⟨hi, hG, TmRelD.full.2 (TmRel.begin hus fn.ntmps), rfl⟩
        obtain ⟨e, R', s', a', w', h1, h2, h3, h4⟩ := hrec (.code ⟨f, none⟩ c _ _) hsat R b a w rfl rfl rfl hnow [] cs
        have fin : ∀ (todo : List Item), Steps P (lone (b.atR a [.code c]) cs w) (lone { b.atR a' todo with mode := .returning } cs w') → (match closeM s'.marks s'.m with
              | some m => match resA P s'.tm m.h fn.results.toList with
                | some l => K (oneA l) m
                | none => .stuck "results" f ""
              | none => .stuck "marks" f "" : Tree τ).sat ρ Post →
            ∃ e w2 fr, (∃ u, e = Ending.returned u ∧ CallRes ρ R m w (fun v m' => (K v m').sat ρ Post) u w2) ∧ Comes P (lone (Frame.enter P f us .normal) cs w) (lone fr cs w2) e ∧ fr.fn = f ∧ fr.leaving P w2 e := by
          intro todo hsteps hk
          split at hk
          · rename_i m2 hclose
            split at hk
            · rename_i l hres
              obtain ⟨w2, q1, q2, q3⟩ := closeM_ok (P := P) (fr0 := { b.atR a' todo with mode := .returning }) (cs := cs) rfl hclose h1.mem h1.marks
              obtain ⟨v, g1, g2⟩ := results_ok (P := P) q1.ok (fun t => h1.tm.2 t (fun h => h)) hres
              refine ⟨.returned v, w2, { b.atR a' todo with mode := .returning, defers := [] }, ⟨v, rfl, R', oneA l, m2, g2, q1, h2.trans q2, hk⟩, ?_, rfl, ?_⟩
              · rw [henter]
                exact Steps.trans hsteps q3
              · exact ⟨rfl, rfl, rfl, fn, hf, g1⟩
            · exact hk.elim
          · exact hk.elim
        cases e with
        | normal => exact fin [] (Steps.trans h4 (.one (stepR_end rfl))) h3
        | ret =>
          obtain ⟨k', h4⟩ := h4
          exact fin (.code .ret :: k') (Steps.trans h4 (.one (stepR_ret rfl))) h3
        | exit id => exact h3.elim
      · exact hsat.elim
    · exact hsat.elim

theorem setAll_ok {R : Rl} {nt : Nat} : ∀ {ps : List Tmp} {args : List AVal} {us : List Value} {tm : Tr AVal} {tmps : Array Value}, TmRel ρ R nt tm tmps → VRels ρ R args us →
    TmRel ρ R nt (setAll nt ps args tm) ((ps.zip us).foldl (fun tmps (x : Tmp × Value) => tmps.setIfInBounds x.1 x.2) tmps)
  | [], _, _, _, _, h, _ => by simpa [setAll] using h
  | _ :: _, [], us, _, _, h, hu => by simp only [VRels] at hu; subst hu; simpa [setAll] using h
  | t :: ps, v :: args, us, tm, tmps, h, hu => by
    obtain ⟨u, us', rfl, hv, hus⟩ := hu
    simp only [setAll, List.zip_cons_cons, List.foldl_cons]
    refine setAll_ok ?_ hus
    split
    · rename_i hlt
      have hlt := blt_true hlt
      refine ⟨by simpa using h.1, fun x => ?_⟩
      have hs := h.1
      by_cases e : x = t
      · subst e
        have e1 : tmv (tm.set x v) x = v := by simp [tmv, Tr.get_set]
        have e2 : (tmps.setIfInBounds x u).getD x Go.undef = u := by simp [Array.getD, hs, hlt]
        rw [e1, e2]; exact hv
      · have e1 : tmv (tm.set t v) x = tmv tm x := by simp [tmv, Tr.get_set, e]
        have e2 : (tmps.setIfInBounds t u).getD x Go.undef = tmps.getD x Go.undef := by
          rw [Array.getD_eq_getD_getElem?, Array.getD_eq_getD_getElem?, Array.getElem?_setIfInBounds_ne (fun y => e y.symm)]
        rw [e1, e2]; exact h.2 x
    · rename_i hlt
      have hlt : ¬ t < nt := fun x => by rw [show Nat.blt t nt = true from Nat.ble_eq_true_of_le x] at hlt; cases hlt
      have : tmps.setIfInBounds t u = tmps := Array.setIfInBounds_eq_of_size_le (by rw [h.1]; exact Nat.le_of_not_lt hlt)
      rw [this]; exact h

theorem stepRound_ok (hrec : ∀ j, JOk P G ρ Post rec j) {l : Nat} {args : List AVal} {m : AM} {K : AVal → AM → Tree τ} (hsat : (stepRound rec l args m K).sat ρ Post) :
    ∀ R w (us : Array Value) bl, R.blk l = some bl → MemInv ρ R m w → GlobOk R G → VRels ρ R args us.toList →
      ∃ nx w1, (Instr.yield bl us).run P w = .ok nx w1 ∧ NextOk P nx w1 (CallRes ρ R m w fun v m' => (K v m').sat ρ Post) := by
  intro R w us bl hl hi hG hus
  unfold stepRound at hsat
  split at hsat
  · rename_i st pe fn nt tm ps as bd df hget
    split at hsat
    · exact hsat.elim
    · rename_i hlen
      have hlen := Nat.eq_of_beq_eq_true hlen
      obtain ⟨o, ho, lo, rfl, e1, e2, e3, e4, e5, e6, e7, e8⟩ := hi.ok l _ bl hget hl
      have hul := hus.length
      simp only [Array.length_toList] at hul
      have hps : us.size = lo.params.size := by rw [hul, hlen, ← e5]; simp
      have hy := run_yield (P := P) ho hps
      refine ⟨_, w, hy, ?_⟩
      intro c cs
      let b : Frame := { (default : Frame) with fn := lo.fn, kind := .normal, roundOf := some bl }
      let tmps' := (lo.params.zip us).foldl (fun tmps (x : Tmp × Value) => tmps.setIfInBounds x.1 x.2) lo.tmps
      let a : Act := { tmps := tmps', defers := [] }
      have hframe : Frame.round bl lo.fn tmps' lo.assign lo.body .normal = b.atR a [.code lo.assign, .beginRound, .code lo.body] := by
        simp [Frame.round, Frame.atR, b, a]
      have htm : TmRel ρ R nt (setAll nt ps args tm) tmps' := by
        have := setAll_ok (ps := ps) e4 hus
        have e : tmps' = (ps.zip us.toList).foldl (fun tmps (x : Tmp × Value) => tmps.setIfInBounds x.1 x.2) lo.tmps := by
          simp only [tmps', ← e5]
          rw [← Array.foldl_toList]
          simp
        rw [e]; exact this
      have hnow : Now ρ G R noD ⟨nt, setAll nt ps args tm, [], m⟩ a w := ⟨hi, hG, TmRelD.full.2 htm, rfl⟩
      obtain ⟨e, R1, s1, a1, w1, h1, h2, h3, h4⟩ := hrec (.code ⟨fn, some l⟩ as _ _) hsat R b a w e3 rfl ⟨bl, hl, rfl⟩ hnow [.beginRound, .code lo.body] (c :: cs)
      have hle1 := h2.le hi
      have hl1 := (hle1 _ _ hl).1
      cases e with
      | exit id => exact h3.elim
      | ret => exact h3.elim
      | normal =>
        simp only at h3
        split at h3
        · rename_i pe' fn' nt' tm' ps' as' bd' df' hget1
          obtain ⟨o1, ho1, lo1, rfl, g1, g2, g3, g4, g5, g6, g7, g8⟩ := h1.mem.ok l _ bl hget1 hl1
          have hbr := run_beginRound (P := P) ho1 g1
          have hi2 : MemInv ρ R1 (s1.m.upd l (.loop .busy pe' fn' nt' tm' ps' as' bd' df')) (w1.putObj bl (.loop { lo1 with state := .busy })) :=
            h1.mem.upd hget1 hl1 ⟨{ lo1 with state := .busy }, rfl, rfl, g2, g3, g4, g5, g6, g7, g8⟩
          have hs2 := h2.trans (MStep.upd (.loop .busy pe' fn' nt' tm' ps' as' bd' df') hget1 rfl hl1 (.loop { lo1 with state := .busy }))
          have hnow2 : Now ρ G R1 noD ⟨s1.nt, s1.tm, s1.marks, s1.m.upd l (.loop .busy pe' fn' nt' tm' ps' as' bd' df')⟩ a1 (w1.putObj bl (.loop { lo1 with state := .busy })) := ⟨hi2, h1.glob, h1.tm, h1.marks⟩
          rw [← e7] at h3
          obtain ⟨e', R3, s3, a3, w3, q1, q2, q3, q4⟩ := hrec (.code ⟨fn, some l⟩ lo.body _ _) h3 R1 b a1 _ e3 rfl ⟨bl, hl1, rfl⟩ hnow2 [] (c :: cs)
          have hsteps : Steps P (lone (Frame.round bl lo.fn tmps' lo.assign lo.body .normal) (c :: cs) w) (lone (b.atR a1 [.code lo.body]) (c :: cs) (w1.putObj bl (.loop { lo1 with state := .busy }))) := by
            rw [hframe, e6]
            exact Steps.trans h4 (.one (stepR_beginRound rfl hbr))
          have hle3 := q2.le hi2
          have hl3 := (hle3 _ _ hl1).1
          dsimp only at q3
          split at q3
          · rename_i st3 pe3 fn3 nt3 tm3 ps3 as3 bd3 df3 hget3
            obtain ⟨o3, ho3, lo3, rfl, k1, k2, k3, k4, k5, k6, k7, k8⟩ := q1.mem.ok l _ bl hget3 hl3
            have endr : ∀ (jump : Option Code), ∃ R' m', MemInv ρ R' m' (w3.putObj bl (.loop { lo3 with state := if jump.isNone then .ready else .done, pending := jump })) ∧
                m' = s3.m.upd l (.loop (if jump.isNone then .ready else .done) jump fn3 nt3 tm3 ps3 as3 bd3 df3) ∧ R' = R3 ∧
                MStep R m w R' m' (w3.putObj bl (.loop { lo3 with state := if jump.isNone then .ready else .done, pending := jump })) := by
              intro jump
              refine ⟨R3, _, q1.mem.upd (y := .loop (if jump.isNone then .ready else .done) jump fn3 nt3 tm3 ps3 as3 bd3 df3) hget3 hl3 ⟨{ lo3 with state := if jump.isNone then .ready else .done, pending := jump }, rfl, rfl, rfl, k3, k4, k5, k6, k7, k8⟩, rfl, rfl, ?_⟩
              exact (hs2.trans q2).trans (MStep.upd _ hget3 rfl hl3 _)
            cases e' with
            | normal =>
              obtain ⟨R', m', z1, rfl, rfl, z4⟩ := endr none
              have := run_endRound (P := P) none ho3
              exact ⟨.bool true, _, ⟨R', .bool (.lit true), _, rfl, z1, z4, q3⟩, hsteps.trans (Steps.trans q4 (.one (stepR_round_end rfl rfl this)))⟩
            | ret =>
              obtain ⟨R', m', z1, rfl, rfl, z4⟩ := endr (some .ret)
              have := run_endRound (P := P) (some .ret) ho3
              obtain ⟨k', q4⟩ := q4
              exact ⟨.bool false, _, ⟨R', .bool (.lit false), _, rfl, z1, z4, q3⟩, hsteps.trans (Steps.trans q4 (.one (stepR_round_ret rfl rfl this)))⟩
            | exit id =>
              obtain ⟨R', m', z1, rfl, rfl, z4⟩ := endr (some (.exit id))
              have := run_endRound (P := P) (some (.exit id)) ho3
              obtain ⟨k', x1, q4⟩ := q4
              exact ⟨.bool false, _, ⟨R', .bool (.lit false), _, rfl, z1, z4, q3⟩, hsteps.trans (Steps.trans q4 (.one (stepR_round_exit rfl rfl (by rw [x1]; rfl) this)))⟩
          · exact q3.elim
        · exact h3.elim
  · exact hsat.elim
end

/-! ### The whole -/
section
variable {P : Program} {G : Nat} {ρ : Env} {τ : Type} {Post : τ → Prop}

theorem exec_ok (hmix : P.follows .mixedOrders = true) (hpl : PlainFuncs P) {prim : Prim} (hprim : PrimOk P G prim) : ∀ (n : Nat) (j : Job τ), JOk P G ρ Post (exec P G prim n) j := by
  intro n
  induction n with
  | zero =>
    intro j
    cases j with
    | code cx c s K => exact fun h => h.elim
    | call f args m K => exact fun h => h.elim
    | round l args m K => exact fun h => h.elim
  | succ n ih =>
    intro j
    cases j with
    | code cx c s K => exact fun h => stepCode_ok ih hmix ((stepCodeF_eq P G _ cx c s K) ▸ h)
    | call f args m K => exact fun h => stepCall_ok ih hpl hprim h
    | round l args m K => exact fun h => stepRound_ok ih h
end
end Go.Sx
