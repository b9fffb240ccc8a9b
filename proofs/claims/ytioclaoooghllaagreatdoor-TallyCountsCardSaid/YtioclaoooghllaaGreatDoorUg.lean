/-
  Seat a: the contract.
  No condition.
-/
import Derived.Test.YtioclaoooghllaaGreatDoorCards
import Derived.Test.YtioclaoooghllaaGreatDoorTie
import Derived.ProofKit
import Derived.OpenShut
import Derived.Deep.DeepHandedRow
import Derived.Deep.SlicePairs
import Derived.Lib.LaidTab
import Derived.Carry
import Derived.Test.YtioclaoooghllaaGreatDoorUf
namespace Go.Proofs.YtioclaoooghllaaGreatDoor.claim
open Go Go.ChangeShapes Go.WideShapes Go.ChangeAt Go.RowKit Go.Sx Go.Sm Go.Deep
theorem own : ownKnob Tryz.prog.godebug = none := by kernel_rfl
def formsName : String := Rows.tallyCountsRow.named.getD 3 ""
theorem gForms : Tryz.prog.globalNamed formsName = some 2 := by kernel_rfl
theorem shape2 : (((begin Tryz.prog (fun _ _ => 0) default).world.heap[2]?).bind Obj.row?).map (·.2) = some 149 := by kernel_rfl
theorem forms_type : (Tryz.prog.globals[2]?).map (·.type) = some 149 := by kernel_rfl
theorem under149 : Tryz.prog.underlying 149 = some (.array 14 9) := by kernel_rfl
theorem cells149 : Tryz.prog.cellsOf 149 = 14 := by kernel_rfl
theorem cells9 : Tryz.prog.cellsOf 9 = 1 := by kernel_rfl
theorem cells_of_strs {H : Type} {enc : TypeId × Value → H} {P : Program} {w : World} {base : Nat} {sp : Nat → Bool} {held : Bool} {fuel : Nat} {t e : TypeId} {n : Nat} {cs : List Value} {zs : List (List UInt8)} {p : List MemPlace}
    (ht : P.underlying t = some (.array n e)) (he : P.underlying e = some .string) (hce : P.cellsOf e = 1) (hct : P.cellsOf t = n)
    (h : DataW.trod enc P w base sp held fuel t cs = some (.agg (zs.map fun z => .lit (.string z)), p)) : cs = zs.map fun z => Value.string ⟨z.toArray⟩ := by
  cases fuel with
  | zero => simp [DataW.trod] at h
  | succ fuel =>
    simp only [DataW.trod, ht, hce, hct, Nat.mul_one] at h
    split at h
    · rename_i hl
      obtain ⟨xs, hm, hx⟩ := Option.map_eq_some_iff.1 h
      have hxs : xs.map (·.1) = zs.map fun z => (DataW.lit (.string z) : DataW H) := by
        have := congrArg Prod.fst hx
        simpa using this
      have hxl : xs.length = n := by simpa using Lib.mapM_length hm
      have hzl : zs.length = n := by
        have := congrArg List.length hxs
        simp at this
        omega
      apply List.ext_getElem?
      intro i
      by_cases hi : i < n
      · obtain ⟨b, hb, hf⟩ := Lib.mapM_at hm i i (by simp [hi])
        obtain ⟨z, hc, rfl, _⟩ := DataW.trod_string he hf
        have h1 : cs[i]? = some (.string z) := by
          have := congrArg (·[0]?) hc
          simpa [List.getElem?_take, List.getElem?_drop] using this
        have h2 : (xs.map (·.1))[i]? = some (DataW.lit (.string z.data.toList) : DataW H) := by simp [hb]
        rw [hxs] at h2
        simp only [List.getElem?_map, Option.map_eq_some_iff, DataW.lit.injEq, Lit.string.injEq] at h2
        obtain ⟨z', hz', e⟩ := h2
        subst e
        simp [h1, hz']
      · rw [List.getElem?_eq_none (by omega), List.getElem?_eq_none (by simp; omega)]
    · cases h
theorem forms_laid {W : World} (hL : laidMetH Tryz.prog Rows.tallyCountsRow.laid W) (hS : W.ShapedOpen Tryz.prog) : LaidStrs W 2 149 Tryz.forms := by
  have e0 : (Rows.tallyCountsRow.laid.filter fun x => x.2.handleName?.isSome) = [] := by kernel_rfl
  have hpl : laidMet Tryz.prog Rows.tallyCountsRow.laid W := by
    unfold laidMetH at hL
    rw [e0] at hL
    exact hL
  obtain ⟨ps, ⟨g0, t0, cs0, fuel0, p0, q0, _, _, _, _, ⟨g1, t1, cs1, fuel1, p1, q1, hg1, ht1, hv1, hd1, _, _⟩, _⟩, _⟩ := hpl
  obtain rfl := Option.some.inj (gForms.symm.trans hg1)
  obtain rfl := Option.some.inj (forms_type.symm.trans ht1)
  have hcs := cells_of_strs (zs := Tryz.forms) under149 Tryz.underlying9 cells9 cells149 hd1
  have hsh := shape2
  cases hr : ((begin Tryz.prog (fun _ _ => 0) default).world.heap[2]?).bind Obj.row? with
  | none => rw [hr] at hsh; cases hsh
  | some zt =>
    obtain ⟨zero, t⟩ := zt
    rw [hr] at hsh
    simp only [Option.map_some, Option.some.injEq] at hsh
    subst hsh
    obtain ⟨cs, hh, _, _⟩ := hS.1 2 zero 149 (of_decide_eq_true (by kernel_rfl)) hr
    have hv : W.var? Tryz.prog formsName = some cs := by simp [World.var?, gForms, hh]
    have hv2 := hv.symm.trans hv1
    cases hv2
    exact ⟨(0, 0), by rw [hh, ← hcs]⟩
theorem laidOut : laidOutB Tryz.prog = true := by kernel_rfl
theorem post_below {H : Type} {enc : TypeId × Value → H} {P : Program} {f : Func} {s : ChangeSpec} {apart fresh handsOn again : Bool} {W W' : World} {args : Array Value} {v : Value} {ds gs : List (DataW H)} {before pa pv : List MemPlace}
    (hW : DataW.Whole enc P f.params.toList s.vars apart W args.toList ds gs before)
    (hres : ∀ (b : Nat) (sp : Nat → Bool) (hd : Bool), DataW.TrodAll enc P W' b sp hd f.resultTypes.toList (v.resultList f.resultTypes.size) (s.fn H (ds ++ gs)).results [])
    (hargs : ∀ sp : Nat → Bool, (∀ p ∈ before, sp p.block = true) → DataW.TrodAll enc P W' 0 sp true f.params.toList args.toList (s.fn H (ds ++ gs)).args pa)
    (hvars : ∀ sp : Nat → Bool, (∀ p ∈ before, sp p.block = true) → DataW.TrodVars enc P W' sp s.vars (s.fn H (ds ++ gs)).vars pv)
    (hps : before = pa ++ pv) (hb : Below W.heap.size W W')
    (hok : ∀ (j : Nat) (t : TypeId) (r : Value), f.resultTypes[j]? = some t → (v.resultList f.resultTypes.size)[j]? = some r → Value.okWide P W' .any 0 t r) :
    s.post enc P f apart fresh handsOn again W args v W' := by
  have hin : ∀ p ∈ before, p.block < W.heap.size := fun p hp => hW.lt p hp
  refine ⟨ds, gs, before, [], pa, pv, hW, hres _ _ _, hargs _ (fun p hp => by simpa using hin p hp), hvars _ (fun p hp => by simpa using hin p hp), World.keptBut_mono (fun p hp => ⟨hp, ?_⟩) (hb.frame (· ∈ before)), fun _ => ?_⟩
  · rw [hps, List.mem_append] at hp
    exact Or.inr hp
  · obtain ⟨_, _, _, _, _, hz, hn⟩ := hW
    refine ⟨hok, _, _, ([] ++ pa) ++ pv, ⟨[] ++ pa, pv, trodAll_append (hargs _ (fun _ _ => rfl)) (hres _ _ _), hvars _ (fun _ _ => rfl), rfl, ?_, ?_⟩, ?_⟩
    · intro b off hp
      have hp2 : MemPlace.cell b off ∈ before := by rw [hps]; simpa using hp
      rw [hb.frozen (p := ⟨b, off, none⟩) (hin _ hp2)]
      exact hz b off hp2
    · intro ha
      simpa [hps] using hn ha
    · intro p hp _
      simpa [hps] using hp
theorem under28 : ∃ f0 f1 : Field, Tryz.prog.underlying 28 = some (.struct #[f0, f1]) ∧ f0.offset = 0 ∧ f1.offset = 1 ∧ f0.type = 9 ∧ f1.type = 23 := by
  have h : (match Tryz.prog.underlying 28 with | some (.struct fs) => fs.toList.map (fun f => (f.offset, f.type)) | _ => []) = [(0, 9), (1, 23)] := by kernel_rfl
  generalize Tryz.prog.underlying 28 = u at h ⊢
  cases u with
  | none => cases h
  | some d =>
    cases d with
    | struct fs =>
      obtain ⟨L⟩ := fs
      rcases L with _ | ⟨f0, _ | ⟨f1, _ | ⟨f2, r⟩⟩⟩
      · simp at h
      · simp at h
      · simp at h
        exact ⟨f0, f1, rfl, h.1.1, h.2.1, h.1.2, h.2.2⟩
      · simp at h
    | _ => simp at h
theorem cells28 : Tryz.prog.cellsOf 28 = 2 := by kernel_rfl
theorem cells23 : Tryz.prog.cellsOf 23 = 1 := by kernel_rfl
set_option maxRecDepth 100000 in
/-- the argument: a slice of keys and numbers -/
theorem open_acts {H : Type} {enc : TypeId × Value → H} {W : World} {base : Nat} {v : Value} {d : DataW H} {ps : List MemPlace} (hval : Value.okWide Tryz.prog W .any base 22 v) (h : DataW.Trod enc Tryz.prog W 0 (fun _ => true) true 22 v d ps) :
    ∃ (a : Option Addr) (cap : Nat) (l : List (List UInt8 × Nat)), v = .slice a l.length cap ∧ Tryz.ActsO W a l ∧ (∀ p ∈ l, p.1.length ≤ maxLen) ∧ (∀ p ∈ l, p.2 < 18446744073709551616) := by
  obtain ⟨a, len, cap, rfl⟩ := okWide_slice Tryz.underlying22 hval
  obtain ⟨fuel, h⟩ := h
  obtain ⟨f0, f1, hu, o0, o1, t0, t1⟩ := under28
  rcases open_slice_pairs Tryz.underlying22 hu cells28 o0 o1 (by rw [t0]; exact cells9) (by rw [t1]; exact cells23) h with ⟨hc, _⟩ | ⟨a', len', cap', m, n, V0, V1, D0, D1, P0, P1, hc, _, hl, hm, hmm, _, hall⟩
  · simp [Value.cells] at hc
    obtain ⟨rfl, rfl, rfl⟩ := hc
    exact ⟨none, 0, [], rfl, .inl rfl, by simp, by simp⟩
  · simp [Value.cells] at hc
    obtain ⟨rfl, rfl, rfl⟩ := hc
    simp only [if_true] at hmm
    subst hmm
    have hstr : ∀ i, i < len → ∃ s : List UInt8, V0 i = .string ⟨s.toArray⟩ ∧ s.length ≤ maxLen := fun i hi => by
      obtain ⟨s, h1, _, h3⟩ := DataW.trod_string (by rw [t0]; exact Tryz.underlying9) (hall i (by omega)).2.2.1
      simp only [List.cons.injEq, and_true] at h1
      exact ⟨s.data.toList, by rw [h1], by simpa using h3⟩
    have hint : ∀ i, i < len → ∃ x : Nat, V1 i = .int .u64 (x : Int) ∧ x < 18446744073709551616 := fun i hi => by
      obtain ⟨x, h1, _, h3⟩ := DataW.trod_int (by rw [t1]; exact Tryz.underlying23) (hall i (by omega)).2.2.2
      simp only [List.cons.injEq, and_true] at h1
      simp [Lit.wf, IntKind.min, IntKind.max, IntKind.signed, IntKind.bits] at h3
      exact ⟨x.toNat, by rw [h1]; congr 1; omega, by omega⟩
    obtain ⟨S, hS⟩ := choose_lt hstr
    obtain ⟨X, hX⟩ := choose_lt hint
    refine ⟨some a', m, (List.range len).map fun i => (S i, X i), by simp, ?_, ?_, ?_⟩
    · cases hlen : len with
      | zero => exact .inl rfl
      | succ k =>
        right
        obtain ⟨sb, so, spot⟩ := a'
        have hspot : spot = none := by simpa [Addr.add] using World.cell?_spot (hall 0 (by omega)).1
        subst hspot
        refine ⟨sb, so, rfl, ?_, fun j hj => ?_⟩
        · exact World.block_lt_of_cell? W _ (hall 0 (by omega)).1
        · have hj' : j < len := by simpa [hlen] using hj
          have h1 := (hall j (by omega)).1
          have h2 := (hall j (by omega)).2.1
          rw [(hS j hj').1] at h1
          rw [(hX j hj').1] at h2
          simp only [List.getElem_map, List.getElem_range]
          rw [add_plain] at h1 h2
          exact ⟨h1, by simpa [Nat.add_assoc] using h2⟩
    · intro p hp
      obtain ⟨i, hi, rfl⟩ := List.mem_map.1 hp
      exact (hS i (List.mem_range.1 hi)).2
    · intro p hp
      obtain ⟨i, hi, rfl⟩ := List.mem_map.1 hp
      exact (hX i (List.mem_range.1 hi)).2
set_option maxRecDepth 100000 in
theorem contract (H : Type) (enc : TypeId × Value → H) (W : World) (base : Nat) (args : Array Value) (ds gs : List (DataW H)) (before : List MemPlace)
    (hval : ∀ (j : Nat) t v, Tryz.f3.params[j]? = some t → args[j]? = some v → Value.okWide Tryz.prog W .any base t v)
    (hW : DataW.Whole enc Tryz.prog Tryz.f3.params.toList Rows.tallyCountsSpec.vars false W args.toList ds gs before) (hL : laidMetH Tryz.prog Rows.tallyCountsRow.laid W) (hS : W.ShapedOpen Tryz.prog) :
    Calls Tryz.prog 3 args W fun e W' => ∃ v, e = .returned v ∧ Rows.tallyCountsSpec.post enc Tryz.prog Tryz.f3 false true false false W args v W' := by
  have hW' := hW
  obtain ⟨p, q, hA0, hV, rfl, hfz, hnd⟩ := hW
  have hA : DataW.TrodAll enc Tryz.prog W 0 (fun _ => true) true Tryz.f3.params.toList args.toList ds p := hA0
  rw [Tryz.params3] at hA hval
  obtain ⟨v0, vs0, d0, ds0, p0, q0, hargs, rfl, rfl, h0, r0⟩ := trodAll_cons hA
  obtain ⟨v1, vs1, d1, ds1, p1, q1, rfl, rfl, rfl, h1, r1⟩ := trodAll_cons r0
  obtain ⟨v2, vs2, d2, ds2, p2, q2, rfl, rfl, rfl, h2, r2⟩ := trodAll_cons r1
  obtain ⟨rfl, rfl, rfl⟩ := trodAll_nil r2
  obtain rfl : args = #[v0, v1, v2] := by cases args; simp_all
  obtain ⟨rfl, rfl⟩ := trodVars_none hV
  obtain ⟨s, rfl, rfl, rfl, ws⟩ := open_int Tryz.underlying23 (hval 1 23 v1 rfl rfl) h1
  obtain ⟨f, rfl, rfl, rfl, wf⟩ := open_int Tryz.underlying23 (hval 2 23 v2 rfl rfl) h2
  obtain ⟨a, cap, l, rfl, hacts, hk, hn⟩ := open_acts (hval 0 22 v0 rfl rfl) h0
  simp [Lit.wf, IntKind.min, IntKind.max, IntKind.signed, IntKind.bits] at ws wf
  obtain ⟨s, rfl⟩ : ∃ m : Nat, s = (m : Int) := ⟨s.toNat, by omega⟩
  obtain ⟨f, rfl⟩ : ∃ m : Nat, f = (m : Int) := ⟨f.toNat, by omega⟩
  have walk := Tryz.tally_any a cap l s f W hacts hk hn (by omega) (by omega) (forms_laid hL hS)
  clear hA0 hA r0 r1
  refine walk.mono fun e W' ⟨he, hb⟩ => ?_
  subst he
  have hlt : ∀ x ∈ p0, x.block < W.heap.size := fun x hx => hW'.lt x (by simp [hx])
  refine ⟨_, rfl, post_below (pa := p0 ++ ([] ++ ([] ++ []))) (pv := []) hW' (fun _ _ _ => trodAll_cons_mk (shut_bool Tryz.underlying4 _) trodAll_mk0) (fun sp hsp => ?_) (fun _ _ => rfl) rfl hb (ok_one (by kernel_rfl) rfl (okWide_bool_mk Tryz.underlying4 _))⟩
  rw [Tryz.params3]
  exact trodAll_cons_mk (WideElems.Trod_stays laidOut (by kernel_rfl) (of_decide_eq_true (by kernel_rfl)) h0 (fun x hx => hb.same (hlt x hx)) (fun x hx => hsp x (by simp [hx])))
    (trodAll_cons_mk (shut_int Tryz.underlying23 (by simp [Lit.wf, IntKind.min, IntKind.max, IntKind.signed, IntKind.bits]; omega)) (trodAll_cons_mk (shut_int Tryz.underlying23 (by simp [Lit.wf, IntKind.min, IntKind.max, IntKind.signed, IntKind.bits]; omega)) trodAll_mk0))
end Go.Proofs.YtioclaoooghllaaGreatDoor.claim
