/-
  The abstract executor, part C: the operations that only reckon, read or make memory.
  No condition: definitions.
-/
import Derived.Test.YtioclaoooghllaaGreatDoorSxB
namespace Go.Sx

/-! ### Numbers, fast where both are literals -/
def wrapF (k : IntKind) (n : Int) : Int :=
  match n with
  | .ofNat m =>
    match k with
    | .u8 => .ofNat (Nat.mod m 256)
    | .u16 => .ofNat (Nat.mod m 65536)
    | .u32 => .ofNat (Nat.mod m 4294967296)
    | .u64 => .ofNat (Nat.mod m 18446744073709551616)
    | .i64 => match Nat.blt m 9223372036854775808 with | true => .ofNat m | false => IntKind.i64.wrap (.ofNat m)
    | .i32 => match Nat.blt m 2147483648 with | true => .ofNat m | false => IntKind.i32.wrap (.ofNat m)
    | k => k.wrap (.ofNat m)
  | n => k.wrap n
theorem blt_true {a b : Nat} (h : Nat.blt a b = true) : a < b := Nat.le_of_ble_eq_true h
theorem wrapF_eq (k : IntKind) (n : Int) : wrapF k n = k.wrap n := by
  have e1 : ∀ m c : Nat, Int.ofNat (Nat.mod m c) = (Int.ofNat m) % (c : Int) := fun m c => rfl
  cases n with
  | negSucc m => rfl
  | ofNat m =>
    cases k <;> simp only [wrapF, e1]
    · split
      · rename_i h
        have := blt_true h
        simp only [IntKind.wrap, IntKind.bits, IntKind.signed, Bool.true_and, Int.ofNat_eq_natCast]
        rw [if_neg (by simp; omega)]; omega
      · rfl
    · split
      · rename_i h
        have := blt_true h
        simp only [IntKind.wrap, IntKind.bits, IntKind.signed, Bool.true_and, Int.ofNat_eq_natCast]
        rw [if_neg (by simp; omega)]; omega
      · rfl
    all_goals simp [IntKind.wrap, IntKind.bits, IntKind.signed]

theorem wrap_mod (k : IntKind) (n : Int) : k.wrap (n % (2 ^ k.bits : Int)) = k.wrap n := by
  simp [IntKind.wrap]

def arithL (op : BinOp) (k : IntKind) (x y : Int) : Int :=
  match op with
  | .add => wrapF k (Int.add x y)
  | .sub => wrapF k (Int.sub x y)
  | .mul => wrapF k (Int.mul x y)
  | .quo => wrapF k (Int.tdiv x y)
  | .rem => Int.tmod x y
  | .and => match x, y with | .ofNat a, .ofNat b => wrapF k (.ofNat (Nat.land a b)) | x, y => arithFn .and k x y
  | .or => match x, y with | .ofNat a, .ofNat b => wrapF k (.ofNat (Nat.lor a b)) | x, y => arithFn .or k x y
  | .xor => match x, y with | .ofNat a, .ofNat b => wrapF k (.ofNat (Nat.xor a b)) | x, y => arithFn .xor k x y
  | .shl => match x, y with | .ofNat a, .ofNat b => (match Nat.ble b k.bits with | true => wrapF k (.ofNat (Nat.shiftLeft a b)) | false => arithFn .shl k x y) | x, y => arithFn .shl k x y
  | .shr => match x, y with | .ofNat a, .ofNat b => (match Nat.ble b k.bits with | true => .ofNat (Nat.shiftRight a b) | false => arithFn .shr k x y) | x, y => arithFn .shr k x y
  | op => arithFn op k x y

theorem ofInt_natCast_toNat (w a : Nat) : (BitVec.ofInt w (Int.ofNat a)).toNat = a % 2 ^ w := by
  simp

theorem ofNat_wrap_mod (k : IntKind) (a : Nat) : k.wrap ((a % 2 ^ k.bits : Nat) : Int) = k.wrap (Int.ofNat a) := by
  have : ((a % 2 ^ k.bits : Nat) : Int) = (Int.ofNat a) % (2 ^ k.bits : Int) := by simp
  rw [this, wrap_mod]

theorem arithL_eq (op : BinOp) (k : IntKind) (x y : Int) : arithL op k x y = arithFn op k x y := by
  cases op <;> simp only [arithL, wrapF_eq] <;> try rfl
  · split
    · rename_i a b
      simp only [arithFn, BitVec.toNat_and, ofInt_natCast_toNat]
      rw [← Nat.and_mod_two_pow, ofNat_wrap_mod]; rfl
    · rfl
  · split
    · rename_i a b
      simp only [arithFn, BitVec.toNat_or, ofInt_natCast_toNat]
      rw [← Nat.or_mod_two_pow, ofNat_wrap_mod]; rfl
    · rfl
  · split
    · rename_i a b
      simp only [arithFn, BitVec.toNat_xor, ofInt_natCast_toNat]
      rw [← Nat.xor_mod_two_pow, ofNat_wrap_mod]; rfl
    · rfl
  · split
    · rename_i a b
      split
      · rename_i h
        have := Nat.le_of_ble_eq_true h
        simp only [arithFn, Int.ofNat_eq_natCast, Int.toNat_natCast]
        rw [Nat.min_eq_left this]
        congr 1
        show ((a <<< b : Nat) : Int) = _
        rw [Nat.shiftLeft_eq]; simp
      · rfl
    · rfl
  · split
    · rename_i a b
      split
      · rename_i h
        have := Nat.le_of_ble_eq_true h
        simp only [arithFn, Int.ofNat_eq_natCast, Int.toNat_natCast]
        rw [Nat.min_eq_left this]
        show ((a >>> b : Nat) : Int) = _
        rw [Nat.shiftRight_eq_div_pow, Int.fdiv_eq_ediv_of_nonneg _ (by exact_mod_cast Nat.zero_le _)]
        simp
      · rfl
    · rfl

def eqI : Int → Int → Bool
  | .ofNat a, .ofNat b => Nat.beq a b
  | .negSucc a, .negSucc b => Nat.beq a b
  | _, _ => false
def ltI : Int → Int → Bool
  | .ofNat a, .ofNat b => Nat.blt a b
  | .negSucc _, .ofNat _ => true
  | .ofNat _, .negSucc _ => false
  | .negSucc a, .negSucc b => Nat.blt b a
theorem eqI_iff (x y : Int) : eqI x y = true ↔ x = y := by
  cases x <;> cases y <;> simp [eqI] <;> omega
theorem ltI_iff (x y : Int) : ltI x y = true ↔ x < y := by
  cases x <;> cases y <;> simp [ltI, Nat.blt] <;> omega
def cmpL (op : BinOp) (x y : Int) : Bool :=
  match op with
  | .eql => eqI x y
  | .neq => !eqI x y
  | .lss => ltI x y
  | .leq => !ltI y x
  | .gtr => ltI y x
  | .geq => !ltI x y
  | _ => false
theorem cmpL_eq (op : BinOp) (x y : Int) : cmpL op x y = cmpFn op x y := by
  have he := eqI_iff x y
  have hl := ltI_iff x y
  have hg := ltI_iff y x
  rw [Bool.eq_iff_iff]
  cases op <;> simp [cmpL, cmpFn, he, hl, hg]
  · rw [Bool.eq_false_iff, ne_eq, he]
  · rw [Bool.eq_false_iff, ne_eq, hg]; omega
  · rw [Bool.eq_false_iff, ne_eq, hl]; omega

/-! ### The constructors that fold literals -/
def mkArith (op : BinOp) (k : IntKind) (a b : IE) : IE := match a, b with | .lit x, .lit y => forceI (arithL op k x y) .lit | a, b => .arith op k a b
def mkConv (k : IntKind) (a : IE) : IE := match a with | .lit x => forceI (wrapF k x) .lit | a => .conv k a
def mkCmp (op : BinOp) (a b : IE) : BE := match a, b with | .lit x, .lit y => .lit (cmpL op x y) | a, b => .cmp op a b
def mkLen (s : SE) : IE := match s with | .lit l => forceN l.length fun n => .lit (.ofNat n) | s => .len s
def mkByte (s : SE) (i : IE) : IE := match s, i with | .lit l, .lit (.ofNat i) => forceN ((l[i]?).getD 0).toNat fun n => .lit (.ofNat n) | s, i => .byte s i
def mkNot (a : BE) : BE := match a with | .lit b => .lit (!b) | .not a => a | a => .not a
def mkPickB (c a b : BE) : BE := match c with | .lit true => a | .lit false => b | c => .pick c a b
def mkPickI (c : BE) (a b : IE) : IE := match c with | .lit true => a | .lit false => b | c => .pick c a b
def mkPickS (c : BE) (a b : SE) : SE := match c with | .lit true => a | .lit false => b | c => .pick c a b
def mkAnd (a b : BE) : BE := mkPickB a b (.lit false)
def mkCat (a b : SE) : SE := match a, b with | .lit [], b => b | a, .lit [] => a | .lit x, .lit y => .lit (x ++ y) | a, b => .cat a b
def mkSub (s : SE) (lo hi : IE) : SE := match s, lo, hi with | .lit l, .lit (.ofNat a), .lit (.ofNat b) => .lit ((l.take b).drop a) | s, lo, hi => .sub s lo hi
def mkSnoc (s : SE) (b : IE) : SE := match s, b with | .lit l, .lit (.ofNat n) => .lit (l ++ [UInt8.ofNat n]) | s, b => .snoc s b
def mkScmp (op : BinOp) (a b : SE) : BE := match a, b with | .lit x, .lit y => .lit (scmpFn op x y) | a, b => .scmp op a b

section dens
variable (ρ : Env)
@[simp] theorem den_mkArith (op : BinOp) (k : IntKind) (a b : IE) : (mkArith op k a b).den ρ = arithFn op k (a.den ρ) (b.den ρ) := by
  unfold mkArith; split <;> simp [IE.den, arithL_eq]
@[simp] theorem den_mkConv (k : IntKind) (a : IE) : (mkConv k a).den ρ = k.wrap (a.den ρ) := by
  unfold mkConv; split <;> simp [IE.den, wrapF_eq]
@[simp] theorem den_mkCmp (op : BinOp) (a b : IE) : (mkCmp op a b).den ρ = cmpFn op (a.den ρ) (b.den ρ) := by
  unfold mkCmp; split <;> simp [IE.den, BE.den, cmpL_eq]
@[simp] theorem den_mkLen (s : SE) : (mkLen s).den ρ = ((s.den ρ).length : Int) := by
  unfold mkLen; split <;> simp [IE.den, SE.den]
@[simp] theorem den_mkByte (s : SE) (i : IE) : (mkByte s i).den ρ = ((((s.den ρ)[(i.den ρ).toNat]?).getD 0).toNat : Int) := by
  unfold mkByte; split <;> simp [IE.den, SE.den]
@[simp] theorem den_mkNot (a : BE) : (mkNot a).den ρ = !a.den ρ := by
  unfold mkNot; split <;> simp [BE.den]
@[simp] theorem den_mkPickB (c a b : BE) : (mkPickB c a b).den ρ = if c.den ρ then a.den ρ else b.den ρ := by
  unfold mkPickB; split <;> simp [BE.den]
@[simp] theorem den_mkPickI (c : BE) (a b : IE) : (mkPickI c a b).den ρ = if c.den ρ then a.den ρ else b.den ρ := by
  unfold mkPickI; split <;> simp [BE.den, IE.den]
@[simp] theorem den_mkPickS (c : BE) (a b : SE) : (mkPickS c a b).den ρ = if c.den ρ then a.den ρ else b.den ρ := by
  unfold mkPickS; split <;> simp [BE.den, SE.den]
@[simp] theorem den_mkAnd (a b : BE) : (mkAnd a b).den ρ = (a.den ρ && b.den ρ) := by
  unfold mkAnd; simp [BE.den]
@[simp] theorem den_mkCat (a b : SE) : (mkCat a b).den ρ = a.den ρ ++ b.den ρ := by
  unfold mkCat; split <;> simp [SE.den]
@[simp] theorem den_mkSub (s : SE) (lo hi : IE) : (mkSub s lo hi).den ρ = ((s.den ρ).take (hi.den ρ).toNat).drop (lo.den ρ).toNat := by
  unfold mkSub; split <;> simp [IE.den, SE.den]
@[simp] theorem den_mkSnoc (s : SE) (b : IE) : (mkSnoc s b).den ρ = s.den ρ ++ [UInt8.ofNat (b.den ρ).toNat] := by
  unfold mkSnoc; split <;> simp [IE.den, SE.den]
@[simp] theorem den_mkScmp (op : BinOp) (a b : SE) : (mkScmp op a b).den ρ = scmpFn op (a.den ρ) (b.den ρ) := by
  unfold mkScmp; split <;> simp [BE.den, SE.den]
end dens

/-! ### Values out of the program's text -/
def absS : Value → Option AVal
  | .bool b => some (.bool (.lit b))
  | .int k n => some (.int k (.lit n))
  | .string s => some (.str (.lit s.data.toList))
  | .pointer none => some .nilPtr
  | .slice none 0 0 => some .nilSlice
  | .map none => some .nilMap
  | .nilFunc => some .nilFunc
  | .nilIface => some .nilIface
  | _ => none
def absL : List Value → Option (List AVal)
  | [] => some []
  | v :: vs => match absS v with
    | none => none
    | some x => match absL vs with | none => none | some xs => some (x :: xs)
def absV : Value → Option AVal
  | .agg cs => match absL cs.toList with | some l => some (.agg l) | none => none
  | .tuple cs => match absL cs.toList with | some l => some (.tuple l) | none => none
  | .iface t v => match absS v with | some x => some (.iface t x) | none => none
  | v => absS v
theorem absS_rel (ρ : Env) (R : Rl) : ∀ {v : Value} {x : AVal}, absS v = some x → VRel ρ R x v := by
  intro v x h
  unfold absS at h
  split at h <;> first
    | (cases h; simp [VRel, BE.den, IE.den, SE.dens, SE.den]; done)
    | cases h
theorem absL_rel (ρ : Env) (R : Rl) : ∀ {vs : List Value} {xs : List AVal}, absL vs = some xs → VRels ρ R xs vs
  | [], xs, h => by cases h; rfl
  | v :: vs, xs, h => by
    unfold absL at h
    split at h
    · cases h
    · rename_i x hx
      split at h
      · cases h
      · rename_i ys hy
        cases h
        exact VRels.cons (absS_rel ρ R hx) (absL_rel ρ R hy)
theorem absV_rel (ρ : Env) (R : Rl) {v : Value} {x : AVal} (h : absV v = some x) : VRel ρ R x v := by
  unfold absV at h
  split at h
  · rename_i cs; split at h
    · rename_i l hl; cases h; exact ⟨cs, rfl, absL_rel ρ R hl⟩
    · cases h
  · rename_i cs; split at h
    · rename_i l hl; cases h; exact ⟨cs, rfl, absL_rel ρ R hl⟩
    · cases h
  · rename_i t v; split at h
    · rename_i y hy; cases h; exact ⟨v, rfl, absS_rel ρ R hy⟩
    · cases h
  · exact absS_rel ρ R h

/-! ### What the program's tables say -/
def aggA (P : Program) (t : TypeId) : Option Bool :=
  match P.underlying t with
  | some (.struct _) => some true
  | some (.array _ _) => some true
  | some _ => some false
  | none => none
def szA (P : Program) (t : TypeId) : Option Nat := match P.info? t with | some i => some i.size | none => none
def zeroA (P : Program) (t : TypeId) : Option AVal := match P.info? t with | some i => (match i.zero with | some z => absV z | none => none) | none => none

section runs
variable {P : Program} (w : World)
theorem run_und {t : TypeId} {d : TypeDesc} (h : P.underlying t = some d) : (underlying t).run P w = .ok d w := by
  simp [underlying, h]
theorem run_info {t : TypeId} {i : TypeInfo} (h : P.info? t = some i) : (typeInfo t).run P w = .ok i w := by
  simp [typeInfo, h]
theorem run_size {t : TypeId} {n : Nat} (h : szA P t = some n) : (sizeOf t).run P w = .ok n w := by
  unfold szA at h
  split at h
  · rename_i i hi; cases h; simp [sizeOf, run_info w hi]
  · cases h
theorem run_agg {t : TypeId} {b : Bool} (h : aggA P t = some b) : (isAgg t).run P w = .ok b w := by
  unfold aggA at h
  split at h
  · rename_i hd; cases h; simp [isAgg, run_und w hd]
  · rename_i hd; cases h; simp [isAgg, run_und w hd]
  · rename_i d h1 h2 hd; cases h
    simp only [isAgg, Sem.run_bind, run_und w hd, Result.andThen_ok]
    cases d <;> simp at h1 h2 ⊢
  · cases h
theorem run_zero (ρ : Env) (R : Rl) {t : TypeId} {x : AVal} (h : zeroA P t = some x) : ∃ v, (zeroValue t).run P w = .ok v w ∧ VRel ρ R x v := by
  unfold zeroA at h
  split at h
  · rename_i i hi
    split at h
    · rename_i z hz
      exact ⟨z, by simp [zeroValue, run_info w hi, hz], absV_rel ρ R h⟩
    · cases h
  · cases h
end runs

def partA (P : Program) (t : TypeId) (cs : List AVal) (off : Nat) : Option AVal :=
  match aggA P t with
  | some true => match szA P t with | some n => some (.agg ((cs.drop off).take n)) | none => none
  | some false => cs[off]?
  | none => none
theorem run_part {ρ : Env} {R : Rl} {P : Program} (w : World) {t : TypeId} {cs : List AVal} {c : Array Value} {off : Nat} {x : AVal} (hc : VRels ρ R cs c.toList) (h : partA P t cs off = some x) :
    ∃ v, (part t c off).run P w = .ok v w ∧ VRel ρ R x v := by
  unfold partA at h
  split at h
  · rename_i ha
    split at h
    · rename_i n hn
      cases h
      refine ⟨.agg (c.extract off (off + n)), by simp [part, run_agg w ha, run_size w hn], _, rfl, ?_⟩
      have := (hc.drop off).take n
      simpa [Array.toList_extract, List.extract] using this
    · cases h
  · rename_i ha
    obtain ⟨v, hv, hx⟩ := hc.get h
    refine ⟨v, ?_, hx⟩
    rw [Array.getElem?_toList] at hv
    simp [part, run_agg w ha, hv]
  · cases h

def fillA (place : Nat → Option (Nat × Nat)) : List AVal → List (Nat × AVal) → Option (List AVal)
  | cells, [] => some cells
  | cells, (i, v) :: rest =>
    match place i with
    | none => none
    | some (off, size) =>
      match Nat.beq v.cells.length size with
      | false => none
      | true =>
        match Nat.ble (off + size) cells.length with
        | false => none
        | true => fillA place (spliceL cells off v.cells) rest

theorem fold_splice (off : Nat) : ∀ (l : List Value) (k : Nat) (cs : Array Value), off + k + l.length ≤ cs.size →
    ((l.zipIdx k).foldl (fun cs (x : Value × Nat) => cs.setIfInBounds (off + x.2) x.1) cs).toList = spliceL cs.toList (off + k) l
  | [], k, cs, _ => by simp [spliceL_nil]
  | v :: l, k, cs, h => by
    simp only [List.length_cons] at h
    simp only [List.zipIdx_cons, List.foldl_cons]
    rw [fold_splice off l (k + 1) _ (by simp; omega)]
    have := set_splice cs.toList (off + k) v l (by simp; omega)
    simp only [Array.toList_setIfInBounds]
    rw [← this, Nat.add_assoc]

theorem run_fill {ρ : Env} {R : Rl} {place : Nat → Option (Nat × Nat)} : ∀ {parts : List (Nat × AVal)} {ps : List (Nat × Value)} {cells xs : List AVal} {c : Array Value}, fillA place cells parts = some xs →
    VRels ρ R cells c.toList → ps.map (·.1) = parts.map (·.1) → VRels ρ R (parts.map (·.2)) (ps.map (·.2)) → ∃ c' : Array Value, Instr.fill place c ps = some c' ∧ VRels ρ R xs c'.toList
  | [], ps, cells, xs, c, h, hc, h1, h2 => by
    simp only [fillA, Option.some.injEq] at h
    subst h
    have : ps = [] := by simpa using h1
    subst this
    exact ⟨c, rfl, hc⟩
  | (i, v) :: rest, ps, cells, xs, c, h, hc, h1, h2 => by
    obtain ⟨⟨j, u⟩, ps, rfl⟩ : ∃ p q, ps = p :: q := by cases ps <;> simp at h1 ⊢
    simp only [List.map_cons, List.cons.injEq] at h1
    obtain ⟨rfl, h1⟩ := h1
    simp only [List.map_cons] at h2
    obtain ⟨u', us', e, hu, h2⟩ := h2
    simp only [List.cons.injEq] at e
    obtain ⟨rfl, rfl⟩ := e
    unfold fillA at h
    split at h
    · cases h
    rename_i off size hp
    split at h
    · cases h
    rename_i hs
    split at h
    · cases h
    rename_i hl
    have hs := Nat.eq_of_beq_eq_true hs
    have hl := Nat.le_of_ble_eq_true hl
    have hcl := hc.length
    have hul := hu.cells.length
    simp only [Array.length_toList] at hcl hul
    have hsz : u.cells.size = size := by omega
    have hle : off + u.cells.size ≤ c.size := by omega
    have hfold : (u.cells.zipIdx.foldl (fun cs (x : Value × Nat) => cs.setIfInBounds (off + x.2) x.1) c).toList = spliceL c.toList off u.cells.toList := by
      have := fold_splice off u.cells.toList 0 c (by simp; omega)
      rw [Nat.add_zero] at this
      rw [← this]
      congr 1
      rw [← Array.foldl_toList]
      simp
    obtain ⟨c', h3, h4⟩ := run_fill (ps := ps) (c := u.cells.zipIdx.foldl (fun cs (x : Value × Nat) => cs.setIfInBounds (off + x.2) x.1) c) h (by rw [hfold]; exact hc.splice hu.cells) h1 h2
    refine ⟨c', ?_, h4⟩
    simp only [Instr.fill, hp]
    rw [if_neg]
    · exact h3
    · simp only [Bool.or_eq_true, decide_eq_true_eq, not_or]
      omega

/-- n times the cells. -/
def repA (z : List AVal) : Nat → List AVal
  | 0 => []
  | n + 1 => z ++ repA z n
theorem rep_rel {ρ : Env} {R : Rl} {z : List AVal} {c : Array Value} (h : VRels ρ R z c.toList) (hz : z ≠ []) : ∀ n, VRels ρ R (repA z n) ((Array.range (n * z.length)).map (c[· % c.size]!)).toList := by
  have hl := h.length
  simp only [Array.length_toList] at hl
  have hzl : 0 < z.length := by cases z <;> simp at hz ⊢
  intro n
  have key : ∀ n, ((List.range (n * z.length)).map (c[· % c.size]!)) = (List.replicate n c.toList).flatten := by
    intro n
    induction n with
    | zero => simp
    | succ n ih =>
      rw [List.replicate_succ', List.flatten_append, ← ih, Nat.succ_mul, List.range_add, List.map_append]
      congr 1
      simp only [List.flatten_cons, List.flatten_nil, List.append_nil, List.map_map]
      apply List.ext_getElem
      · simp [hl]
      · intro i h1 h2
        simp only [List.length_map, List.length_range] at h1
        have : (n * z.length + i) % c.size = i := by rw [hl, Nat.add_comm, Nat.add_mul_mod_self_right]; exact Nat.mod_eq_of_lt h1
        simp only [List.getElem_map, List.getElem_range, Function.comp, Array.getElem_toList, this]
        rw [getElem!_pos c i (by omega)]
  have : ((Array.range (n * z.length)).map (c[· % c.size]!)).toList = (List.replicate n c.toList).flatten := by
    rw [← key n]; simp
  rw [this]
  clear key this
  induction n with
  | zero => simp [repA, VRels]
  | succ n ih => rw [List.replicate_succ, List.flatten_cons]; exact h.append ih
end Go.Sx
