/-
  The abstract executor, part F: the quiet operations together.
  No condition: definitions and lemmas.
-/
import Derived.Test.YtioclaoooghllaaGreatDoorSxE
import GoSem.Dispatch
namespace Go.Sx
open Go.Instr

section
variable {P : Program} {ρ : Env} {R : Rl} {w : World} {h : Tr ABlk}

/-! ### Binary operators -/
def isConst : Operand → Bool
  | .const _ => true
  | _ => false

/-- '==' and '!=' at values that are no numbers and no strings. -/
def eqlA (P : Program) (t : TypeId) (x y : Operand) (a b : AVal) : Option BE :=
  match a, b with
  | .nilIface, .nilIface => match isConst x, isConst y with
    | false, false => none
    | _, _ => eqA P 9 t a b
  | .agg _, .agg _ => match P.eqGuardType P.depth t with
    | true => none
    | false => eqA P 9 t a b
  | a, b => eqA P 9 t a b

def notLit0 (b : IE) : Option (List BE) := match b with
  | .lit n => match eqI n 0 with | true => none | false => some []
  | b => some [mkCmp .neq b (.lit 0)]
def geLit0 (b : IE) : Option (List BE) := match b with
  | .lit n => match ltI n 0 with | true => none | false => some []
  | b => some [mkCmp .geq b (.lit 0)]

theorem notLit0_ok {b : IE} {l : List BE} (hp : notLit0 b = some l) (hl : Needs ρ l) : b.den ρ ≠ 0 := by
  unfold notLit0 at hp
  split at hp
  · rename_i n
    split at hp
    · cases hp
    · rename_i hn
      intro e
      have : eqI n 0 = true := (eqI_iff n 0).2 e
      rw [hn] at this; cases this
  · cases hp
    have := hl _ (List.mem_cons_self ..)
    simpa [cmpFn, IE.den] using this
theorem geLit0_ok {b : IE} {l : List BE} (hp : geLit0 b = some l) (hl : Needs ρ l) : 0 ≤ b.den ρ := by
  unfold geLit0 at hp
  split at hp
  · rename_i n
    split at hp
    · cases hp
    · rename_i hn
      have := mt (ltI_iff n 0).2 (by simpa using hn)
      simp only [IE.den]; omega
  · cases hp
    have := hl _ (List.mem_cons_self ..)
    simpa [cmpFn, IE.den] using this

def catNeed (a b : SE) : Option (List BE) := match a, b with
  | .lit x, .lit y => match Nat.ble (x.length + y.length) 1000000000000 with | true => some [] | false => none
  | a, b => some [mkCmp .leq (mkLen (mkCat a b)) (.lit 9223372036854775807)]
theorem catNeed_ok {a b : SE} {l : List BE} (hp : catNeed a b = some l) (hl : Needs ρ l) : (((a.dens ρ).size + (b.dens ρ).size : Nat) : Int) ≤ IntKind.i64.max := by
  have hm : IntKind.i64.max = 9223372036854775807 := by decide
  have e : ∀ s : SE, (s.dens ρ).size = (s.den ρ).length := fun s => by simp [SE.dens, ByteArray.size]
  rw [hm, e, e]
  unfold catNeed at hp
  split at hp
  · split at hp
    · rename_i hq
      have := Nat.le_of_ble_eq_true hq
      simp only [SE.den]; omega
    · cases hp
  · cases hp
    have := hl _ (List.mem_cons_self ..)
    simp [cmpFn, IE.den] at this
    omega

def isCmp : BinOp → Bool
  | .eql | .neq | .lss | .leq | .gtr | .geq => true
  | _ => false

def pkBin (P : Program) (op : BinOp) (t : TypeId) (x y : Operand) (a b : AVal) : Option (List BE × AVal) :=
  match a, b with
  | .int k a, .int k' b =>
    match op with
    | .shl => match geLit0 b with | some l => some (l, .int k (mkArith .shl k a b)) | none => none
    | .shr => match geLit0 b with | some l => some (l, .int k (mkArith .shr k a b)) | none => none
    | op =>
      if k = k' then
        match op with
        | .add => some ([], .int k (mkArith .add k a b))
        | .sub => some ([], .int k (mkArith .sub k a b))
        | .mul => some ([], .int k (mkArith .mul k a b))
        | .and => some ([], .int k (mkArith .and k a b))
        | .or => some ([], .int k (mkArith .or k a b))
        | .xor => some ([], .int k (mkArith .xor k a b))
        | .andNot => some ([], .int k (mkArith .andNot k a b))
        | .quo => match notLit0 b with | some l => some (l, .int k (mkArith .quo k a b)) | none => none
        | .rem => match notLit0 b with | some l => some (l, .int k (mkArith .rem k a b)) | none => none
        | op => match isCmp op with | true => some ([], .bool (mkCmp op a b)) | false => none
      else none
  | .str a, .str b =>
    match op with
    | .add => match catNeed a b with | some l => some (l, .str (mkCat a b)) | none => none
    | op => match isCmp op with | true => some ([], .bool (mkScmp op a b)) | false => none
  | a, b =>
    match op with
    | .eql => match eqlA P t x y a b with | some e => some ([], .bool e) | none => none
    | .neq => match eqlA P t x y a b with | some e => some ([], .bool (mkNot e)) | none => none
    | _ => none

theorem intK (k : IntKind) (a b : Int) (op : BinOp) (t : TypeId) (h1 : op ≠ .shl) (h2 : op ≠ .shr) : (binOp op t (.int k a) (.int k b)).run P w =
    (match op with
    | .add | .sub | .mul => Op.intArith op k a b
    | .quo | .rem => Op.intDiv op k a b
    | .and | .or | .xor | .andNot => Op.intBits op k a b
    | _ => Op.intCmp op a b).run P w := by
  cases op <;> first
    | exact absurd rfl h1
    | exact absurd rfl h2
    | simp [binOp]

theorem eqGuard_int (op : BinOp) (t : TypeId) (x y : Operand) (k k' : IntKind) (a b : Int) : (eqGuard op t x y (.int k a) (.int k' b)).run P w = .ok () w := by
  cases op <;> simp [eqGuard]
theorem eqGuard_str (op : BinOp) (t : TypeId) (x y : Operand) (a b : ByteArray) : (eqGuard op t x y (.string a) (.string b)).run P w = .ok () w := by
  cases op <;> simp [eqGuard]

theorem VRel_int {k : IntKind} {a : IE} {v : Value} (h : VRel ρ R (.int k a) v) : v = .int k (a.den ρ) := h
theorem VRel_str {a : SE} {v : Value} (h : VRel ρ R (.str a) v) : v = .string (a.dens ρ) := h
theorem VRel_bool {a : BE} {v : Value} (h : VRel ρ R (.bool a) v) : v = .bool (a.den ρ) := h

theorem dens_cat (a b : SE) : (mkCat a b).dens ρ = a.dens ρ ++ b.dens ρ := by
  apply ByteArray.ext
  apply Array.ext'
  simp [SE.dens]

theorem dens_toList (a : SE) : (a.dens ρ).toList = a.den ρ := by
  rw [ByteArray.toList_eq]; simp [SE.dens]

theorem strOp_ok {op : BinOp} {a b : SE} (hc : isCmp op = true) : (Op.stringOp op (a.dens ρ) (b.dens ρ)).run P w = .ok (.bool ((mkScmp op a b).den ρ)) w := by
  cases op <;> simp [isCmp] at hc <;> simp [Op.stringOp, scmpFn, dens_toList, eqL_iff, ltL_eq]

/-- What is no number and no string: two such values are compared by 'Op.equal'. -/
def plainPair : AVal → AVal → Bool
  | .int _ _, .int _ _ => false
  | .str _, .str _ => false
  | _, _ => true

theorem binOp_eql {t : TypeId} {a b : AVal} {u v : Value} (ha : VRel ρ R a u) (hb : VRel ρ R b v) (hp : plainPair a b = true) (he : ∃ e, eqA P 9 t a b = some e) :
    (binOp .eql t u v) = (do pure (.bool (← Op.equal t u v))) ∧ (binOp .neq t u v) = (do pure (.bool (!(← Op.equal t u v)))) := by
  obtain ⟨e, he⟩ := he
  have hs : ∀ k n s, ¬ (a = .int k n ∧ b = .str s) := by
    rintro k n s ⟨rfl, rfl⟩
    unfold eqA at he; split at he <;> simp at he
  cases a <;> cases b <;> simp only [plainPair, Bool.false_eq_true] at hp <;>
    first
      | (obtain ⟨_, _, rfl⟩ := ha; first | (obtain ⟨_, _, rfl⟩ := hb; exact ⟨rfl, rfl⟩) | (obtain ⟨_, rfl, _⟩ := hb; exact ⟨rfl, rfl⟩) | (obtain ⟨_, _, _, _, rfl, _, _⟩ := hb; exact ⟨rfl, rfl⟩) | (cases hb; exact ⟨rfl, rfl⟩))
      | (obtain ⟨_, rfl, _⟩ := ha; first | (obtain ⟨_, _, rfl⟩ := hb; exact ⟨rfl, rfl⟩) | (obtain ⟨_, rfl, _⟩ := hb; exact ⟨rfl, rfl⟩) | (obtain ⟨_, _, _, _, rfl, _, _⟩ := hb; exact ⟨rfl, rfl⟩) | (cases hb; exact ⟨rfl, rfl⟩))
      | (obtain ⟨_, _, _, _, rfl, _, _⟩ := ha; first | (obtain ⟨_, _, rfl⟩ := hb; exact ⟨rfl, rfl⟩) | (obtain ⟨_, rfl, _⟩ := hb; exact ⟨rfl, rfl⟩) | (obtain ⟨_, _, _, _, rfl, _, _⟩ := hb; exact ⟨rfl, rfl⟩) | (cases hb; exact ⟨rfl, rfl⟩))
      | (cases ha; first | (obtain ⟨_, _, rfl⟩ := hb; exact ⟨rfl, rfl⟩) | (obtain ⟨_, rfl, _⟩ := hb; exact ⟨rfl, rfl⟩) | (obtain ⟨_, _, _, _, rfl, _, _⟩ := hb; exact ⟨rfl, rfl⟩) | (cases hb; exact ⟨rfl, rfl⟩))

/-- Neither two nil interface values nor two aggregates. -/
def calmPair : AVal → AVal → Bool
  | .nilIface, .nilIface => false
  | .agg _, .agg _ => false
  | _, _ => true
set_option maxHeartbeats 2000000 in
theorem eqGuard_calm {op : BinOp} {t : TypeId} {x y : Operand} {a b : AVal} {u v : Value} (ha : VRel ρ R a u) (hb : VRel ρ R b v) (hp : calmPair a b = true) : (eqGuard op t x y u v).run P w = .ok () w := by
  have key : ∀ u v : Value, (∀ (h1 : u = .nilIface) (_ : v = .nilIface), False) → (∀ c d, u = .agg c → v = .agg d → False) → (eqGuard op t x y u v).run P w = .ok () w := by
    intro u v h1 h2
    have e2 : ∀ op : BinOp, (op = .eql ∨ op = .neq) → (eqGuard op t x y u v).run P w = .ok () w := by
      intro op ho
      rcases ho with rfl | rfl <;>
      · simp only [eqGuard]
        split
        · rename_i hc; simp at hc
        · rfl
    cases op <;> first | rfl | exact e2 _ (.inl rfl) | exact e2 _ (.inr rfl)
  have hn : ∀ {c : AVal} {z : Value}, VRel ρ R c z → z = .nilIface → c = .nilIface := by
    intro c z hc hz; subst hz
    cases c <;> simp [VRel] at hc ⊢
  have hg : ∀ {c : AVal} {z : Value} {d}, VRel ρ R c z → z = .agg d → ∃ l, c = .agg l := by
    intro c z d hc hz; subst hz
    cases c <;> simp [VRel] at hc ⊢
  refine key u v (fun h1 h2 => ?_) (fun c d h1 h2 => ?_)
  · have := hn ha h1; have := hn hb h2; subst_vars; simp [calmPair] at hp
  · obtain ⟨l, rfl⟩ := hg ha h1; obtain ⟨l', rfl⟩ := hg hb h2; simp [calmPair] at hp

theorem isConst_match (x : Operand) : (match x with | .const _ => true | _ => false) = isConst x := by cases x <;> rfl

theorem eqGuard_ok {op : BinOp} {t : TypeId} {x y : Operand} {a b : AVal} {u v : Value} {e : BE} (ha : VRel ρ R a u) (hb : VRel ρ R b v) (hp : eqlA P t x y a b = some e) :
    (eqGuard op t x y u v).run P w = .ok () w ∧ eqA P 9 t a b = some e := by
  cases hc : calmPair a b
  · unfold eqlA at hp
    split at hp
    · cases ha; cases hb
      split at hp
      · cases hp
      · rename_i hne
        refine ⟨?_, hp⟩
        have e2 : ∀ op : BinOp, (op = .eql ∨ op = .neq) → (eqGuard op t x y .nilIface .nilIface).run P w = .ok () w := by
          intro op ho
          rcases ho with rfl | rfl <;>
          · simp only [eqGuard]
            split
            · rename_i hc; simp at hc
            · cases x <;> cases y <;> first
                | rfl
                | (exfalso; simp [isConst] at hne; done)
        cases op <;> first | rfl | exact e2 _ (.inl rfl) | exact e2 _ (.inr rfl)
    · obtain ⟨c, rfl, _⟩ := ha
      obtain ⟨d, rfl, _⟩ := hb
      split at hp
      · cases hp
      · rename_i hg
        exact ⟨run_eqGuard_agg w op t x y c d hg, hp⟩
    · rename_i h1 h2
      exfalso
      cases a <;> cases b <;> simp [calmPair] at hc
      · exact h1 rfl rfl
      · exact h2 _ _ rfl rfl
  · refine ⟨eqGuard_calm ha hb hc, ?_⟩
    unfold eqlA at hp
    split at hp
    · simp [calmPair] at hc
    · simp [calmPair] at hc
    · exact hp

theorem pkBin_ok {op : BinOp} {t : TypeId} {x y : Operand} {a b r : AVal} {u v : Value} {l : List BE} (ha : VRel ρ R a u) (hb : VRel ρ R b v) (hp : pkBin P op t x y a b = some (l, r)) (hl : Needs ρ l) :
    VOk P ρ R w (do eqGuard op t x y u v; binOp op t u v) (.val r) := by
  unfold pkBin at hp
  split at hp
  · rename_i k a k' b
    obtain rfl := VRel_int ha
    obtain rfl := VRel_int hb
    have hg := eqGuard_int (P := P) (w := w) op t x y k k' (a.den ρ) (b.den ρ)
    have fin : ∀ z, (binOp op t (.int k (a.den ρ)) (.int k' (b.den ρ))).run P w = .ok z w → VRel ρ R r z → VOk P ρ R w (do eqGuard op t x y (.int k (a.den ρ)) (.int k' (b.den ρ)); binOp op t (.int k (a.den ρ)) (.int k' (b.den ρ))) (.val r) :=
      fun z hz hr => ⟨z, by simp only [Sem.run_bind, hg, Result.andThen_ok, hz], hr⟩
    split at hp
    · split at hp
      · rename_i l' hn
        cases hp
        have := geLit0_ok hn hl
        refine fin (.int k (arithFn .shl k (a.den ρ) (b.den ρ))) ?_ (by simp [VRel])
        simp only [binOp, Op.shift, arithFn]
        rw [if_neg (by omega)]
        simp
      · cases hp
    · split at hp
      · rename_i l' hn
        cases hp
        have := geLit0_ok hn hl
        refine fin (.int k (arithFn .shr k (a.den ρ) (b.den ρ))) ?_ (by simp [VRel])
        simp only [binOp, Op.shift, arithFn]
        rw [if_neg (by omega)]
        simp
      · cases hp
    · rename_i h1 h2
      split at hp
      · rename_i hk
        subst hk
        have hk := intK (P := P) (w := w) k (a.den ρ) (b.den ρ) op t h1 h2
        split at hp
        · cases hp; exact fin _ (by rw [hk]; simp [Op.intArith]; rfl) (by simp [VRel, arithFn])
        · cases hp; exact fin _ (by rw [hk]; simp [Op.intArith]; rfl) (by simp [VRel, arithFn])
        · cases hp; exact fin _ (by rw [hk]; simp [Op.intArith]; rfl) (by simp [VRel, arithFn])
        · cases hp; exact fin _ (by rw [hk]; simp [Op.intBits]; rfl) (by simp [VRel, arithFn])
        · cases hp; exact fin _ (by rw [hk]; simp [Op.intBits]; rfl) (by simp [VRel, arithFn])
        · cases hp; exact fin _ (by rw [hk]; simp [Op.intBits]; rfl) (by simp [VRel, arithFn])
        · cases hp; exact fin _ (by rw [hk]; simp [Op.intBits]; rfl) (by simp [VRel, arithFn])
        · split at hp
          · rename_i l' hn
            cases hp
            have := notLit0_ok hn hl
            exact fin _ (by rw [hk]; simp [Op.intDiv, this]; rfl) (by simp [VRel, arithFn])
          · cases hp
        · split at hp
          · rename_i l' hn
            cases hp
            have := notLit0_ok hn hl
            exact fin _ (by rw [hk]; simp [Op.intDiv, this]; rfl) (by simp [VRel, arithFn])
          · cases hp
        · split at hp
          · rename_i hcm
            cases hp
            refine fin (.bool (cmpFn op (a.den ρ) (b.den ρ))) ?_ (by simp [VRel])
            rw [hk]
            cases op <;> simp [isCmp] at hcm <;> simp [Op.intCmp, cmpFn]
          · cases hp
      · cases hp
  · rename_i a b
    obtain rfl := VRel_str ha
    obtain rfl := VRel_str hb
    have hg := eqGuard_str (P := P) (w := w) op t x y (a.dens ρ) (b.dens ρ)
    have hbin : ∀ op, (op = .add ∨ isCmp op = true) → binOp op t (.string (a.dens ρ)) (.string (b.dens ρ)) = Op.stringOp op (a.dens ρ) (b.dens ρ) := by
      intro op ho; cases op <;> simp [isCmp] at ho <;> rfl
    split at hp
    · split at hp
      · rename_i l' hn
        cases hp
        have := catNeed_ok hn hl
        refine ⟨.string (a.dens ρ ++ b.dens ρ), ?_, by simp [VRel, dens_cat]⟩
        simp only [Sem.run_bind, hg, Result.andThen_ok, hbin .add (.inl rfl), Op.stringOp]
        rw [if_neg (by omega)]
        rfl
      · cases hp
    · split at hp
      · rename_i hcm
        cases hp
        refine ⟨_, ?_, rfl⟩
        simp only [Sem.run_bind, hg, Result.andThen_ok, hbin op (.inr hcm)]
        exact strOp_ok hcm
      · cases hp
  · rename_i h1 h2
    have hpl : plainPair a b = true := by
      cases a <;> cases b <;> first
        | rfl
        | exact (h1 _ _ _ _ rfl rfl).elim
        | exact (h2 _ _ rfl rfl).elim
    split at hp
    · split at hp
      · rename_i e he
        cases hp
        obtain ⟨hg, hq⟩ := eqGuard_ok (op := .eql) (w := w) ha hb he
        have := eqA_ok (P := P) (ρ := ρ) (R := R) 9 (D := 10000) (by omega) _ _ _ _ _ _ w hq ha hb
        refine ⟨.bool (e.den ρ), ?_, rfl⟩
        simp only [Sem.run_bind, hg, Result.andThen_ok, (binOp_eql ha hb hpl ⟨e, hq⟩).1, Op.equal, Op.maxDepth, this, Sem.run_pure]
      · cases hp
    · split at hp
      · rename_i e he
        cases hp
        obtain ⟨hg, hq⟩ := eqGuard_ok (op := .neq) (w := w) ha hb he
        have := eqA_ok (P := P) (ρ := ρ) (R := R) 9 (D := 10000) (by omega) _ _ _ _ _ _ w hq ha hb
        refine ⟨.bool (!e.den ρ), ?_, by simp [VRel]⟩
        simp only [Sem.run_bind, hg, Result.andThen_ok, (binOp_eql ha hb hpl ⟨e, hq⟩).2, Op.equal, Op.maxDepth, this, Sem.run_pure]
      · cases hp
    · cases hp
end
end Go.Sx
