/-
  The abstract executor, part V: functions given by contract, and closed calls.
  No condition: definitions and lemmas.
-/
import Derived.Test.YtioclaoooghllaaGreatDoorSxT
import Derived.Test.YtioclaoooghllaaGreatDoorSxP
import Derived.Laws.Externs
import Derived.Lib.Bytealg
import Derived.Lib.MakeNoZero
import Derived.Below
namespace Go.Sx
open Go.Instr Go.RowKit

/-! ### Closed calls -/
def Rl.glob (G : Nat) : Rl := ⟨fun g => if g < G then some g else none, fun _ => 0⟩

theorem MStep.below {R R' : Rl} {m m' : AM} {w w' : World} (h : MStep R m w R' m' w') (hw : ∀ id x, m.h.get id = some x → x.wr = false) : Below w.heap.size w w' :=
  ⟨h.os, h.tape, h.output, h.size, fun k hk => h.frame k hk fun id x hx hwr => by rw [hw id x hx] at hwr; cases hwr⟩
theorem MStep.of_below (R : Rl) (m : AM) {w w' : World} (h : Below w.heap.size w w') : MStep R m w R m w' where
  ext _ _ := ⟨rfl, rfl⟩
  nx := Nat.le_refl _
  size := h.size
  frame b hb _ := h.block b hb
  live id x _ hx hb := .inr ⟨id, x, hx, fun h => h, hb⟩
  os := h.os
  tape := h.tape
  output := h.output
theorem MemInv.of_below {ρ : Env} {R : Rl} {m : AM} {w w' : World} (hi : MemInv ρ R m w) (h : Below w.heap.size w w') : MemInv ρ R m w' :=
  ⟨fun id x hx => by
      obtain ⟨b, o, hb, ho, hr⟩ := hi.rel id x hx
      exact ⟨b, o, hb, by rw [h.block b (Array.getElem?_eq_some_iff.1 ho).1]; exact ho, hr⟩, hi.inj, hi.fresh⟩

theorem trueT_sat {ρ : Env} {t : Tree Bool} (h : trueT t = true) : t.sat ρ (· = true) := by
  cases t with
  | done b => exact h
  | _ => simp [trueT] at h

variable {P : Program} {G : Nat}

/-- A closed call that the executor has seen come back with true. -/
theorem closed_true (ρ : Env) (hmix : P.follows .mixedOrders = true) (hpl : PlainFuncs P) {prim : Prim} (hprim : PrimOk P G prim) {h0 : Tr ABlk} {fuel : Nat} {f : FuncId} {fn : Func} {c : Code} (hf : P.funcs[f]? = some fn) (hb : fn.body = some c)
    (hrun : trueT (exec P G prim fuel (.call f [] ⟨h0, G⟩ fun v _ => isTrue v)) = true) (W : World)
    (hlaid : ∀ id x, h0.get id = some x → id < G ∧ x.wr = false ∧ ∃ o, W.heap[id]? = some o ∧ BRel ρ (Rl.glob G) id x o) :
    Calls P f #[] W fun e w' => e = .returned (.bool true) ∧ Below W.heap.size W w' := by
  have hglob : GlobOk (Rl.glob G) G := fun g hg => by simp [Rl.glob, hg]
  have hi : MemInv ρ (Rl.glob G) ⟨h0, G⟩ W := by
    refine ⟨fun id x hx => ?_, fun id id' x x' b hx hx' hb hb' => ?_, fun id hid => ?_⟩
    · obtain ⟨h1, _, o, h3, h4⟩ := hlaid id x hx
      exact ⟨id, o, hglob id h1, h3, h4⟩
    · rw [hglob id (hlaid id x hx).1] at hb
      rw [hglob id' (hlaid id' x' hx').1] at hb'
      cases hb; cases hb'; rfl
    · have : ¬ id < G := Nat.not_lt.2 hid
      simp [Rl.glob, this]
  obtain ⟨nx, w1, h1, h2⟩ := exec_ok (ρ := ρ) (Post := (· = true)) hmix hpl hprim fuel (.call f [] ⟨h0, G⟩ fun v _ => isTrue v) (trueT_sat hrun) (Rl.glob G) W #[] hi hglob (by simp [VRels])
  rw [run_callFunc hpl hf hb] at h1
  cases h1
  refine Calls.mono h2 ?_
  rintro e w' ⟨u, rfl, R', v, m', hv, _, hs, hk⟩
  refine ⟨?_, hs.below fun id x hx => (hlaid id x hx).2.1⟩
  have hk : (isTrue v).sat ρ (· = true) := hk
  unfold isTrue at hk
  split at hk
  · rename_i b
    simp only [Tree.sat] at hk
    subst hk
    have := VRel_bool hv
    subst this; rfl
  · exact hk.elim

/-! ### Functions given by contract -/
/-- What the model answers itself. -/
structure ExtAt (P : Program) (f : FuncId) (e : Func → Array Value → Sem Value) : Prop where
  at_ : ∃ fn, P.funcs[f]? = some fn ∧ (fn.name == "runtime.NumGoroutine") = false ∧ fn.body.isNone = true ∧ Extern.findNext fn = none ∧ Extern.find fn = some (e fn)

theorem ExtAt.run {f : FuncId} {e : Func → Array Value → Sem Value} (h : ExtAt P f e) {args : Array Value} {w w' : World} {v : Value} (hr : ∀ fn, P.funcs[f]? = some fn → (e fn args).run P w = .ok v w') : (callFunc f args).run P w = .ok (.value v) w' := by
  obtain ⟨fn, h1, h2, h3, h4, h5⟩ := h.at_
  rw [run_callFunc_extern h1 h2 h3 h4 h5, hr fn h1]; rfl

theorem countL_eq {b : Nat} (hb : b < 256) : ∀ (l : List UInt8) (n : Nat), countL b l n = n + Lib.countByte l b.toUInt8
  | [], n => by simp [countL, Lib.countByte]
  | a :: l, n => by
    have he : (a.toNat = b) ↔ a = b.toUInt8 := by
      constructor
      · rintro rfl; simp
      · rintro rfl; simp; omega
    unfold countL
    have hc : Lib.countByte (a :: l) b.toUInt8 = Lib.countByte l b.toUInt8 + if a == b.toUInt8 then 1 else 0 := by
      unfold Lib.countByte; rw [List.count_cons]
    split
    · rename_i hq
      have : a = b.toUInt8 := he.1 (beq_eq hq)
      rw [countL_eq hb l, hc, if_pos (by simp [this])]; omega
    · rename_i hq
      have : ¬ a = b.toUInt8 := fun e => by rw [he.2 e] at hq; simp at hq
      rw [countL_eq hb l, hc, if_neg (by simpa using this)]; omega

theorem idxL_eq {b : Nat} (hb : b < 256) : ∀ (l : List UInt8) (i : Nat), (match idxL b l i with | some j => (j : Int) | none => -1) = if Lib.indexByte l b.toUInt8 == -1 then -1 else Lib.indexByte l b.toUInt8 + i
  | [], i => by simp [idxL, Lib.indexByte]
  | a :: l, i => by
    have he : (a.toNat = b) ↔ a = b.toUInt8 := by
      constructor
      · rintro rfl; simp
      · rintro rfl; simp; omega
    have := Lib.indexByte_ge l b.toUInt8
    have ih := idxL_eq hb l (i + 1)
    unfold idxL Lib.indexByte
    cases hq : Nat.beq a.toNat b with
    | true =>
      have : a = b.toUInt8 := he.1 (beq_eq hq)
      simp [this]
    | false =>
      have : ¬ a = b.toUInt8 := fun e => by rw [he.2 e] at hq; simp at hq
      have h2 : (a == b.toUInt8) = false := by simpa using this
      simp only [h2]
      rw [ih]
      by_cases e : Lib.indexByte l b.toUInt8 = -1
      · simp [e]
      · have e2 : ¬ Lib.indexByte l b.toUInt8 + 1 = -1 := by omega
        simp [e, e2]; omega

/-- slices.Sorted at what maps.Keys hands back: a new slice that holds the map's keys, sorted; nil where it has none. -/
def KeysOk (P : Program) (f : FuncId) (e : TypeId) (g : FuncId) : Prop :=
  ∀ (W : World) (bp b : Nat) (ty : TypeId) (fr : Nat × Nat) (a : Array MapEntry) (clk : Nat) (ks : List (List UInt8)), W.heap[bp]? = some (.cells #[.map (some b)] ty fr) → W.heap[b]? = some (.map a clk) → MapKept.Stamped a clk →
    a.toList.map (·.key) = ks.map (fun k => .string ⟨k.toArray⟩) → ks.length ≤ 1000000 → (∀ k ∈ ks, k.length ≤ 1000000) →
    Calls P f #[.func (.func g) #[] #[.pointer (some ⟨bp, 0, none⟩)]] W fun x w' => ∃ v, x = .returned v ∧ Below W.heap.size W w' ∧
      ((ks = [] ∧ v = .slice none 0 0) ∨ ∃ b' c, ks ≠ [] ∧ v = .slice (some ⟨b', 0, none⟩) ks.length c.size ∧ W.heap.size ≤ b' ∧ w'.heap[b']? = some (.cells c e) ∧
        ∃ rest, c.toList = (sortL ks).map (fun k => .string ⟨k.toArray⟩) ++ rest)

theorem keysL_ok {ρ : Env} {R : Rl} : ∀ {es : List (AVal × AVal)} {l : List MapEntry} {ks : List (List UInt8)}, ERel ρ R es l → keysL es = some ks → l.map (·.key) = ks.map (fun k => .string ⟨k.toArray⟩)
  | [], l, ks, he, hk => by
    simp only [ERel] at he; subst he
    cases hk; rfl
  | x :: es, l, ks, he, hk => by
    obtain ⟨e, l', rfl, h1, h2, h3⟩ := he
    unfold keysL at hk
    split at hk
    · rename_i heq; cases heq
    · rename_i k y l0 heq
      cases heq
      split at hk
      · rename_i r hr
        cases hk
        simp only [List.map_cons, keysL_ok h3 hr, List.cons.injEq, and_true]
        simpa [VRel, SE.dens, SE.den] using h1
      · cases hk
    · cases hk

theorem shortL_ok : ∀ {l : List (List UInt8)}, shortL l = true → ∀ k ∈ l, k.length ≤ 1000000
  | [], _, k, hk => by simp at hk
  | x :: l, h, k, hk => by
    unfold shortL at h
    split at h
    · rename_i hx
      rcases List.mem_cons.1 hk with rfl | hk
      · exact Nat.le_of_ble_eq_true hx
      · exact shortL_ok h k hk
    · cases h

theorem strs_rel (ρ : Env) (R : Rl) : ∀ (l : List (List UInt8)), VRels ρ R (l.map fun l => .str (.lit l)) (l.map fun k => .string ⟨k.toArray⟩)
  | [] => by simp [VRels]
  | k :: l => by
    simp only [List.map_cons]
    exact VRels.cons (by simp [VRel, SE.dens, SE.den]) (strs_rel ρ R l)

/-- A new block somewhere behind all that was. -/
theorem MemInv.pushAt {ρ : Env} {R : Rl} {m : AM} {w w' : World} (hi : MemInv ρ R m w) (hb : Below w.heap.size w w') {x : ABlk} {o : Obj} {b : Nat} (c : Nat) (hlt : w.heap.size ≤ b) (hh : w'.heap[b]? = some o)
    (ho : BRel ρ (R.push m.nx b c) m.nx x o) : MemInv ρ (R.push m.nx b c) (m.push x) w' ∧ MStep R m w (R.push m.nx b c) (m.push x) w' := by
  have hle : R.le (R.push m.nx b c) := Rl.push_le _ _ (hi.fresh _ (Nat.le_refl _))
  have hold : ∀ j y d, m.h.get j = some y → R.blk j = some d → j ≠ m.nx ∧ d < w.heap.size := by
    intro j y d hy hd
    refine ⟨fun e => (by subst e; rw [hi.fresh _ (Nat.le_refl _)] at hd; cases hd), ?_⟩
    obtain ⟨b', o', hb', ho', _⟩ := hi.rel j y hy
    rw [hd] at hb'; cases hb'
    exact (Array.getElem?_eq_some_iff.1 ho').1
  have hin : ∀ j y, (m.push x).h.get j = some y → (j = m.nx ∧ y = x) ∨ (j ≠ m.nx ∧ m.h.get j = some y) := by
    intro j y hy
    simp only [AM.push, Tr.get_set] at hy
    by_cases e : j = m.nx
    · rw [if_pos e] at hy; cases hy; exact .inl ⟨e, rfl⟩
    · rw [if_neg e] at hy; exact .inr ⟨e, hy⟩
  refine ⟨⟨?_, ?_, ?_⟩, ⟨fun j hj => Rl.push_ne R _ _ (by omega), by simp [AM.push], hb.size, fun d hd _ => hb.block d hd, ?_, hb.os, hb.tape, hb.output⟩⟩
  · intro j y hy
    rcases hin j y hy with ⟨rfl, rfl⟩ | ⟨_, hy'⟩
    · exact ⟨b, o, Rl.push_blk _ _ _ _, hh, ho⟩
    · obtain ⟨d, o', hd, ho', hr⟩ := hi.rel j y hy'
      exact ⟨d, o', (hle _ _ hd).1, by rw [hb.block d (hold j y d hy' hd).2]; exact ho', hr.mono hle hd⟩
  · intro j j' y y' d hy hy' hd hd'
    rcases hin j y hy with ⟨rfl, rfl⟩ | ⟨e, hz⟩ <;> rcases hin j' y' hy' with ⟨rfl, rfl⟩ | ⟨e', hz'⟩
    · rfl
    · rw [Rl.push_blk] at hd; cases hd
      rw [(Rl.push_ne R _ _ e').1] at hd'
      have := (hold j' y' _ hz' hd').2
      omega
    · rw [Rl.push_blk] at hd'; cases hd'
      rw [(Rl.push_ne R _ _ e).1] at hd
      have := (hold j y _ hz hd).2
      omega
    · rw [(Rl.push_ne R _ _ e).1] at hd
      rw [(Rl.push_ne R _ _ e').1] at hd'
      exact hi.inj j j' y y' d hz hz' hd hd'
  · intro j hj
    simp only [AM.push] at hj
    rw [(Rl.push_ne R _ _ (by omega)).1]
    exact hi.fresh j (by omega)
  · intro j y d hy hd
    rcases hin j y hy with ⟨rfl, rfl⟩ | ⟨e, hy'⟩
    · rw [Rl.push_blk] at hd; cases hd; exact .inl hlt
    · rw [(Rl.push_ne R _ _ e).1] at hd
      exact .inr ⟨j, y, hy', fun h => h, hd⟩

/-- What is asked of one that is given by contract. -/
def PKOk (P : Program) (f : FuncId) : PK → Prop
  | .noEscape => ExtAt P f fun _ => Extern.AbiNoEscape.same
  | .count => ExtAt P f fun _ => Extern.BytealgCount.count
  | .indexByte => ExtAt P f fun _ => Extern.BytealgIndexByte.indexByte
  | .makeNoZero e => (ExtAt P f fun fn => Extern.BytealgMakeNoZero.makeNoZero fn.params fn.resultTypes) ∧ ∃ t, (P.funcs[f]?).map (·.resultTypes) = some #[t] ∧ P.underlying t = some (.slice e)
  | .awake => (∃ fn, P.funcs[f]? = some fn ∧ fn.body.isSome = true) ∧ ∀ W, Calls P f #[] W fun e w' => e = .returned (.bool true) ∧ Below W.heap.size W w'
  | .sorted e gs => (∃ fn, P.funcs[f]? = some fn ∧ fn.body.isSome = true) ∧ ∀ g ∈ gs, KeysOk P f e g

theorem primOf_ok (hpl : PlainFuncs P) {tbl : Tr PK} (h : ∀ f k, tbl.get f = some k → PKOk P f k) : PrimOk P G (primOf tbl) := by
  intro f args m v m' hp ρ R w us hi hG hus
  unfold primOf at hp
  split at hp
  · rename_i k hk
    have hok := h f k hk
    unfold runPK at hp
    split at hp
    · rename_i x
      cases hp
      obtain ⟨u, us', hu, hx, hnil⟩ := hus
      simp only [VRels] at hnil
      subst hnil
      have : us = #[u] := by apply Array.ext'; simpa using hu
      subst this
      exact ⟨.value u, w, ExtAt.run hok (fun _ _ => rfl), R, hx, hi, MStep.refl _ _ _⟩
    · cases hp
      simp only [VRels] at hus
      have : us = #[] := by apply Array.ext'; simpa using hus
      subst this
      obtain ⟨⟨fn, h1, h2⟩, h3⟩ := hok
      obtain ⟨c, hc⟩ := Option.isSome_iff_exists.1 h2
      refine ⟨.enter f #[], w, run_callFunc hpl h1 hc _ _, Calls.mono (h3 w) ?_⟩
      rintro e w' ⟨rfl, hb⟩
      exact ⟨_, rfl, R, rfl, hi.of_below hb, MStep.of_below R m hb⟩
    · rename_i l b
      split at hp
      · rename_i hb
        cases hp
        obtain ⟨u, us', hu, hx, u2, us2, rfl, hy, hnil⟩ := hus
        simp only [VRels] at hnil
        subst hnil
        have : us = #[u, u2] := by apply Array.ext'; simpa using hu
        subst this
        simp only [VRel, IE.den] at hx hy
        subst hx hy
        refine ⟨.value _, w, ExtAt.run hok (fun _ _ => Lib.run_countString _ _ _), R, ?_, hi, MStep.refl _ _ _⟩
        simp only [VRel, IE.den, countL_eq (blt_true hb)]
        simp [SE.dens, SE.den]
      · cases hp
    · rename_i l b
      split at hp
      · rename_i hb
        cases hp
        obtain ⟨u, us', hu, hx, u2, us2, rfl, hy, hnil⟩ := hus
        simp only [VRels] at hnil
        subst hnil
        have : us = #[u, u2] := by apply Array.ext'; simpa using hu
        subst this
        simp only [VRel, IE.den] at hx hy
        subst hx hy
        refine ⟨.value _, w, ExtAt.run hok (fun _ _ => Lib.run_indexByteString _ _ _), R, ?_, hi, MStep.refl _ _ _⟩
        have := idxL_eq (blt_true hb) l 0
        simp only [VRel, IE.den]
        congr 1
        simp only [SE.dens, SE.den, Int.ofNat_eq_natCast, Int.toNat_natCast]
        refine Eq.trans ?_ (this.symm.trans ?_)
        · split
          · rename_i e; simpa using e
          · simp
        · cases idxL b l 0 <;> rfl
      · cases hp
    · rename_i e n
      split at hp
      · rename_i hn
        cases hp
        obtain ⟨u, us', hu, hx, hnil⟩ := hus
        simp only [VRels] at hnil
        subst hnil
        have : us = #[u] := by apply Array.ext'; simpa using hu
        subst this
        simp only [VRel, IE.den] at hx
        subst hx
        obtain ⟨hext, t, ht, hund⟩ := hok
        obtain ⟨fn, h1, _⟩ := hext.at_
        have hres : fn.resultTypes = #[t] := by rw [h1] at ht; simpa using ht
        obtain ⟨cs, hr, _, _⟩ := Lib.run_makeNoZero (P := P) w fn.params t e hund n (Nat.le_of_ble_eq_true hn)
        have hrun := ExtAt.run hext (args := #[.int .i64 (Int.ofNat n)]) (w := w) (fun fn' h' => by rw [h1] at h'; cases h'; rw [hres]; exact hr)
        refine ⟨.value _, _, hrun, R.push m.nx w.heap.size cs.size, ?_, hi.push (o := .cells cs e) cs.size rfl ⟨cs, _, [], cs.toList, rfl, rfl, by simp [VRels], by simp [Rl.push_cap], by intro i _ hfr; simp at hfr⟩, MStep.push _ (o := .cells cs e) cs.size rfl ⟨rfl, rfl, rfl⟩⟩
        simp [VRel, ACap.den, Rl.push_blk, Rl.push_cap]
      · cases hp
    · rename_i e gs g pid
      split at hp
      · rename_i hgs
        obtain ⟨q, hq, hqg⟩ := List.any_eq_true.1 hgs
        have hqg := beq_eq hqg
        subst hqg
        split at hp
        · rename_i ty id wr hpid
          split at hp
          · rename_i es hid
            split at hp
            · rename_i ks hks
              obtain ⟨u, us', hu, hx, hnil⟩ := hus
              simp only [VRels] at hnil
              subst hnil
              have : us = #[u] := by apply Array.ext'; simpa using hu
              subst this
              obtain ⟨fn0, fs, cs, hfn, rfl, hfs, hcs⟩ := hx
              cases hfn
              simp only [VRels] at hfs
              have hfs : fs = #[] := by apply Array.ext'; simpa using hfs
              subst hfs
              obtain ⟨p, ps, hp1, ⟨bp, hbp, rfl⟩, hp2⟩ := hcs
              simp only [VRels] at hp2
              subst hp2
              have hcs' : cs = #[.pointer (some ⟨bp, 0, none⟩)] := by apply Array.ext'; simpa using hp1
              subst hcs'
              obtain ⟨o, ho, c, fr, rfl, hc, _⟩ := hi.ok pid _ bp hpid hbp
              obtain ⟨p, ps, hp1, ⟨b, hb, rfl⟩, hp2⟩ := hc
              simp only [VRels] at hp2
              subst hp2
              have hc' : c = #[.map (some b)] := by apply Array.ext'; simpa using hp1
              subst hc'
              obtain ⟨o2, ho2, a, clk, rfl, her, hst⟩ := hi.ok id _ b hid hb
              obtain ⟨⟨fn, h1, h2⟩, h3⟩ := hok
              obtain ⟨cd, hcd⟩ := Option.isSome_iff_exists.1 h2
              have hkeys := keysL_ok her hks
              split at hp
              · cases hp
                refine ⟨.enter f _, w, run_callFunc hpl h1 hcd _ _, Calls.mono (h3 _ hq w bp b ty fr a clk [] ho ho2 hst hkeys (by simp) (by simp)) ?_⟩
                rintro x w' ⟨v, rfl, hbl, hv⟩
                refine ⟨_, rfl, R, ?_, hi.of_below hbl, MStep.of_below R m hbl⟩
                rcases hv with ⟨_, rfl⟩ | ⟨b', c, h0, _⟩
                · rfl
                · exact (h0 rfl).elim
              · rename_i k l
                split at hp
                · rename_i hlen hshort
                  cases hp
                  refine ⟨.enter f _, w, run_callFunc hpl h1 hcd _ _, Calls.mono (h3 _ hq w bp b ty fr a clk _ ho ho2 hst hkeys (Nat.le_of_ble_eq_true hlen) (shortL_ok hshort)) ?_⟩
                  rintro x w' ⟨v, rfl, hbl, hv⟩
                  rcases hv with ⟨h0, _⟩ | ⟨b', c, _, rfl, hlt, hb', rest, hr⟩
                  · cases h0
                  · have hpa := hi.pushAt (x := .grow e ((sortL (k :: l)).map fun l => .str (.lit l)) 1) hbl c.size hlt hb' ⟨c, _, _, rest, rfl, hr, strs_rel ρ _ _, by simp [Rl.push_cap], by intro i _ hfr; simp at hfr⟩
                    refine ⟨_, rfl, _, ⟨b', Rl.push_blk _ _ _ _, ?_⟩, hpa.1, hpa.2⟩
                    simp [ACap.den, Rl.push_cap]
                · cases hp
            · cases hp
          · cases hp
        · cases hp
      · cases hp
    · cases hp
  · cases hp

/-! ### Closed facts of a program -/
def plainB (l : List Func) : Bool := l.all fun fn => fn.body.isNone || !(fn.name == "runtime.NumGoroutine")
theorem plain_of (h : plainB P.funcs.toList = true) : PlainFuncs P := by
  intro f fn c hf hb
  have hm : fn ∈ P.funcs.toList := by
    rw [← Array.getElem?_toList] at hf
    exact List.mem_of_getElem? hf
  have := List.all_eq_true.1 h fn hm
  simpa [hb] using this
def extB (P : Program) (f : Nat) : Bool := match P.funcs[f]? with
  | some fn => !(fn.name == "runtime.NumGoroutine") && fn.body.isNone && (Extern.findNext fn).isNone
  | none => false
theorem ext_of {f : FuncId} {e : Func → Array Value → Sem Value} (h : extB P f = true) (h' : (P.funcs[f]?).bind Extern.find = (P.funcs[f]?).map e) : ExtAt P f e := by
  unfold extB at h
  split at h
  · rename_i fn hf
    rw [hf] at h'
    simp only [Bool.and_eq_true, Bool.not_eq_true', Option.isNone_iff_eq_none] at h
    obtain ⟨⟨h1, h2⟩, h3⟩ := h
    exact ⟨fn, hf, h1, by simpa using h2, h3, h'⟩
  · cases h
def tblOf : List (Nat × PK) → Tr PK
  | [] => .nil
  | (f, k) :: l => (tblOf l).set f k
def AllPK (P : Program) : List (Nat × PK) → Prop
  | [] => True
  | (f, k) :: l => PKOk P f k ∧ AllPK P l
theorem tblOf_ok : ∀ {l : List (Nat × PK)}, AllPK P l → ∀ f k, (tblOf l).get f = some k → PKOk P f k
  | [], _, f, k, h => by simp [tblOf] at h
  | (g, q) :: l, ha, f, k, h => by
    rw [tblOf, Tr.get_set] at h
    split at h
    · rename_i e; cases h; rw [e]; exact ha.1
    · exact tblOf_ok ha.2 f k h
/-- The text of a closed call, whole. -/
theorem closed_by {l : List (Nat × PK)} (hmix : P.follows .mixedOrders = true) (hpl : PlainFuncs P) (hl : AllPK P l) {fuel : Nat} {f : FuncId} {fn : Func} (hf : P.funcs[f]? = some fn) (hb : fn.body.isSome = true)
    (hrun : trueT (exec P G (primOf (tblOf l)) fuel (.call f [] ⟨.nil, G⟩ fun v _ => isTrue v)) = true) (W : World) :
    Calls P f #[] W fun e w' => e = .returned (.bool true) ∧ Below W.heap.size W w' := by
  obtain ⟨c, hc⟩ := Option.isSome_iff_exists.1 hb
  exact closed_true ⟨fun _ => 0, fun _ => false, fun _ => default⟩ hmix hpl (primOf_ok hpl (tblOf_ok hl)) hf hc hrun W (by intro id x hx; simp at hx)

/-- The same over one laid table of strings that is read alone. -/
def LaidStrs (W : World) (g : Nat) (elem : TypeId) (ls : List (List UInt8)) : Prop := ∃ fr, W.heap[g]? = some (.cells (ls.map fun k => Value.string ⟨k.toArray⟩).toArray elem fr)
theorem closed_by_strs {l : List (Nat × PK)} (hmix : P.follows .mixedOrders = true) (hpl : PlainFuncs P) (hl : AllPK P l) {fuel : Nat} {f : FuncId} {fn : Func} (hf : P.funcs[f]? = some fn) (hb : fn.body.isSome = true) {g : Nat} (hg : g < G) {elem : TypeId} {ls : List (List UInt8)}
    (hrun : trueT (exec P G (primOf (tblOf l)) fuel (.call f [] ⟨Tr.nil.set g (.cells elem (ls.map fun l => .str (.lit l)) false), G⟩ fun v _ => isTrue v)) = true) (W : World) (hW : LaidStrs W g elem ls) :
    Calls P f #[] W fun e w' => e = .returned (.bool true) ∧ Below W.heap.size W w' := by
  obtain ⟨c, hc⟩ := Option.isSome_iff_exists.1 hb
  refine closed_true ⟨fun _ => 0, fun _ => false, fun _ => default⟩ hmix hpl (primOf_ok hpl (tblOf_ok hl)) hf hc hrun W ?_
  intro id x hx
  rw [Tr.get_set] at hx
  split at hx
  · rename_i e
    cases hx
    obtain ⟨fr, hfr⟩ := hW
    exact ⟨e ▸ hg, rfl, _, e ▸ hfr, _, fr, rfl, by simpa using strs_rel _ _ ls, fun h => by cases h⟩
  · simp at hx
end Go.Sx
