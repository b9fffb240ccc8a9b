/-
  The abstract executor, part A: symbolic scalars, abstract values, tries, and what an abstract value stands for.
  No condition: definitions and plain lemmas on them.
-/
import Derived.Calls
namespace Go.Sx

/-! ### Tries by number -/
inductive Tr (α : Type) where
  | nil
  | node (l : Tr α) (v : Option α) (r : Tr α)

namespace Tr
variable {α : Type}
def get : Tr α → Nat → Option α
  | .nil, _ => none
  | .node l v r, n => Bool.casesOn (motive := fun _ => Option α) (Nat.beq n 0) (Bool.casesOn (motive := fun _ => Option α) (Nat.beq (Nat.mod n 2) 1) (r.get (Nat.div (Nat.sub n 1) 2)) (l.get (Nat.div (Nat.sub n 1) 2))) v
def putF : Nat → Tr α → Nat → Option α → Tr α
  | 0, t, _, _ => t
  | f + 1, .nil, n, x => Bool.casesOn (motive := fun _ => Tr α) (Nat.beq n 0)
      (Bool.casesOn (motive := fun _ => Tr α) (Nat.beq (Nat.mod n 2) 1) (.node .nil none (putF f .nil (Nat.div (Nat.sub n 1) 2) x)) (.node (putF f .nil (Nat.div (Nat.sub n 1) 2) x) none .nil)) (.node .nil x .nil)
  | f + 1, .node l v r, n, x => Bool.casesOn (motive := fun _ => Tr α) (Nat.beq n 0)
      (Bool.casesOn (motive := fun _ => Tr α) (Nat.beq (Nat.mod n 2) 1) (.node l v (putF f r (Nat.div (Nat.sub n 1) 2) x)) (.node (putF f l (Nat.div (Nat.sub n 1) 2) x) v r)) (.node l x r)
theorem beq_zero (m : Nat) : Nat.beq (m + 1) 0 = false := rfl
theorem beq_odd (m : Nat) : Nat.beq (Nat.mod (m + 1) 2) 1 = match m % 2 with | 0 => true | _ + 1 => false := by
  have h : Nat.mod (m + 1) 2 = (m + 1) % 2 := rfl
  rw [h]
  rcases Nat.mod_two_eq_zero_or_one m with e | e
  · have : (m + 1) % 2 = 1 := by omega
    rw [this, e]; rfl
  · have : (m + 1) % 2 = 0 := by omega
    rw [this, e]; rfl
theorem half (m : Nat) : Nat.div (Nat.sub (m + 1) 1) 2 = m / 2 := rfl
@[simp] theorem get_nil (n : Nat) : (Tr.nil : Tr α).get n = none := by simp only [get]
theorem get_zero (l r : Tr α) (v : Option α) : (Tr.node l v r).get 0 = v := by simp only [get]; rfl
theorem get_succ (l r : Tr α) (v : Option α) (m : Nat) : (Tr.node l v r).get (m + 1) = match m % 2 with | 0 => l.get (m / 2) | _ + 1 => r.get (m / 2) := by
  simp only [get, beq_zero, beq_odd, half]
  cases m % 2 <;> rfl
theorem putF_no (t : Tr α) (n : Nat) (x : Option α) : putF 0 t n x = t := by simp only [putF]
theorem putF_nil_zero (f : Nat) (x : Option α) : putF (f + 1) .nil 0 x = .node .nil x .nil := by simp only [putF]; rfl
theorem putF_nil_succ (f m : Nat) (x : Option α) : putF (f + 1) .nil (m + 1) x = match m % 2 with | 0 => .node (putF f .nil (m / 2) x) none .nil | _ + 1 => .node .nil none (putF f .nil (m / 2) x) := by
  simp only [putF, beq_zero, beq_odd, half]
  cases m % 2 <;> rfl
theorem putF_node_zero (f : Nat) (l r : Tr α) (v x : Option α) : putF (f + 1) (.node l v r) 0 x = .node l x r := by simp only [putF]; rfl
theorem putF_node_succ (f m : Nat) (l r : Tr α) (v x : Option α) : putF (f + 1) (.node l v r) (m + 1) x = match m % 2 with | 0 => .node (putF f l (m / 2) x) v r | _ + 1 => .node l v (putF f r (m / 2) x) := by
  simp only [putF, beq_zero, beq_odd, half]
  cases m % 2 <;> rfl
def set (t : Tr α) (n : Nat) (x : α) : Tr α := putF (n + 1) t n (some x)
def del (t : Tr α) (n : Nat) : Tr α := putF (n + 1) t n none

theorem half_ne {m n : Nat} (h : m ≠ n) (hp : m % 2 = n % 2) : m / 2 ≠ n / 2 := by omega

theorem get_putF : ∀ (f : Nat) (t : Tr α) (n : Nat) (x : Option α) (m : Nat), n < f → (putF f t n x).get m = if m = n then x else t.get m := by
  intro f
  induction f with
  | zero => intro t n x m h; omega
  | succ f ih =>
    intro t n x m h
    cases t with
    | nil =>
      cases n with
      | zero =>
        cases m with
        | zero => simp [putF_nil_zero, putF_nil_succ, putF_node_zero, putF_node_succ, get_nil, get_zero, get_succ]
        | succ m => simp only [putF_nil_zero, putF_nil_succ, putF_node_zero, putF_node_succ, get_nil, get_zero, get_succ]; split <;> simp
      | succ n =>
        simp only [putF_nil_zero, putF_nil_succ, putF_node_zero, putF_node_succ]
        cases hn : n % 2 with
        | zero =>
          cases m with
          | zero => simp [get_nil, get_zero, get_succ]
          | succ m =>
            simp only [get_nil, get_zero, get_succ]
            cases hm : m % 2 with
            | zero =>
              simp only []
              rw [ih _ _ _ _ (by omega)]
              by_cases e : m = n
              · subst e; simp
              · rw [if_neg (half_ne e (by omega)), if_neg (by omega)]; simp [get_nil, get_zero, get_succ]
            | succ k => simp only []; rw [if_neg (by omega)]
        | succ k =>
          cases m with
          | zero => simp [get_nil, get_zero, get_succ]
          | succ m =>
            simp only [get_nil, get_zero, get_succ]
            cases hm : m % 2 with
            | zero => simp only []; rw [if_neg (by omega)]
            | succ k =>
              simp only []
              rw [ih _ _ _ _ (by omega)]
              by_cases e : m = n
              · subst e; simp
              · rw [if_neg (half_ne e (by omega)), if_neg (by omega)]; simp [get_nil, get_zero, get_succ]
    | node l v r =>
      cases n with
      | zero =>
        cases m with
        | zero => simp [putF_nil_zero, putF_nil_succ, putF_node_zero, putF_node_succ, get_nil, get_zero, get_succ]
        | succ m => simp [putF_nil_zero, putF_nil_succ, putF_node_zero, putF_node_succ, get_nil, get_zero, get_succ]
      | succ n =>
        simp only [putF_nil_zero, putF_nil_succ, putF_node_zero, putF_node_succ]
        cases hn : n % 2 with
        | zero =>
          cases m with
          | zero => simp [get_nil, get_zero, get_succ]
          | succ m =>
            simp only [get_nil, get_zero, get_succ]
            cases hm : m % 2 with
            | zero =>
              simp only []
              rw [ih _ _ _ _ (by omega)]
              by_cases e : m = n
              · subst e; simp
              · rw [if_neg (half_ne e (by omega)), if_neg (by omega)]
            | succ k => simp only []; rw [if_neg (by omega)]
        | succ k =>
          cases m with
          | zero => simp [get_nil, get_zero, get_succ]
          | succ m =>
            simp only [get_nil, get_zero, get_succ]
            cases hm : m % 2 with
            | zero => simp only []; rw [if_neg (by omega)]
            | succ k =>
              simp only []
              rw [ih _ _ _ _ (by omega)]
              by_cases e : m = n
              · subst e; simp
              · rw [if_neg (half_ne e (by omega)), if_neg (by omega)]
theorem get_set (t : Tr α) (n : Nat) (x : α) (m : Nat) : (t.set n x).get m = if m = n then some x else t.get m := get_putF _ _ _ _ _ (by omega)
theorem get_del (t : Tr α) (n : Nat) (m : Nat) : (t.del n).get m = if m = n then none else t.get m := get_putF _ _ _ _ _ (by omega)
def ofL : List α → Nat → Tr α → Tr α
  | [], _, t => t
  | x :: l, i, t => ofL l (i + 1) (t.set i x)
theorem get_ofL : ∀ (l : List α) (i : Nat) (t : Tr α) (m : Nat), (ofL l i t).get m = if i ≤ m ∧ m < i + l.length then l[m - i]? else t.get m
  | [], i, t, m => by simp only [ofL, List.length_nil]; rw [if_neg (by omega)]
  | x :: l, i, t, m => by
    simp only [ofL, List.length_cons]
    rw [get_ofL l (i + 1) (t.set i x) m, get_set]
    by_cases h : m = i
    · subst h
      rw [if_neg (by omega), if_pos rfl, if_pos (by omega)]; simp
    · by_cases h2 : i + 1 ≤ m ∧ m < i + 1 + l.length
      · rw [if_pos h2, if_pos (by omega)]
        have : m - i = (m - (i + 1)) + 1 := by omega
        rw [this]; rfl
      · rw [if_neg h2, if_neg h, if_neg (by omega)]
end Tr

/-! ### Numbers worked out -/
def forceN {α : Type} (n : Nat) (k : Nat → α) : α := match n with | 0 => k 0 | m + 1 => k (m + 1)
@[simp] theorem forceN_eq {α : Type} (n : Nat) (k : Nat → α) : forceN n k = k n := by cases n <;> rfl
def forceI {α : Type} (n : Int) (k : Int → α) : α := match n with | .ofNat m => forceN m fun m => k (.ofNat m) | .negSucc m => forceN m fun m => k (.negSucc m)
@[simp] theorem forceI_eq {α : Type} (n : Int) (k : Int → α) : forceI n k = k n := by cases n <;> simp [forceI]

/-! ### Symbolic scalars -/
mutual
inductive IE where
  | lit (n : Int)
  | var (i : Nat)
  | arith (op : BinOp) (k : IntKind) (a b : IE)
  | conv (k : IntKind) (a : IE)
  | len (s : SE)
  | byte (s : SE) (i : IE)
  | pick (c : BE) (a b : IE)
inductive BE where
  | lit (b : Bool)
  | var (i : Nat)
  | cmp (op : BinOp) (a b : IE)
  | scmp (op : BinOp) (a b : SE)
  | not (a : BE)
  | pick (c a b : BE)
inductive SE where
  | lit (l : List UInt8)
  | var (i : Nat)
  | cat (a b : SE)
  | sub (s : SE) (lo hi : IE)
  | snoc (s : SE) (b : IE)
  | pick (c : BE) (a b : SE)
end

structure Env where
  i : Nat → Int
  b : Nat → Bool
  s : Nat → ByteArray

def arithFn (op : BinOp) (k : IntKind) (x y : Int) : Int :=
  match op with
  | .add => k.wrap (x + y)
  | .sub => k.wrap (x - y)
  | .mul => k.wrap (x * y)
  | .quo => k.wrap (x.tdiv y)
  | .rem => x.tmod y
  | .and => k.wrap (BitVec.ofInt k.bits x &&& BitVec.ofInt k.bits y).toNat
  | .or => k.wrap (BitVec.ofInt k.bits x ||| BitVec.ofInt k.bits y).toNat
  | .xor => k.wrap (BitVec.ofInt k.bits x ^^^ BitVec.ofInt k.bits y).toNat
  | .andNot => k.wrap (BitVec.ofInt k.bits x &&& ~~~BitVec.ofInt k.bits y).toNat
  | .shl => k.wrap (x * 2 ^ min y.toNat k.bits)
  | .shr => x.fdiv (2 ^ min y.toNat k.bits)
  | _ => 0
def cmpFn (op : BinOp) (x y : Int) : Bool :=
  match op with
  | .eql => x == y
  | .neq => x != y
  | .lss => x < y
  | .leq => x ≤ y
  | .gtr => x > y
  | .geq => x ≥ y
  | _ => false
def eqL : List UInt8 → List UInt8 → Bool
  | [], [] => true
  | a :: x, b :: y => match Nat.beq a.toNat b.toNat with | true => eqL x y | false => false
  | _, _ => false
def ltL : List UInt8 → List UInt8 → Bool
  | _, [] => false
  | [], _ :: _ => true
  | a :: x, b :: y => match Nat.blt a.toNat b.toNat with
    | true => true
    | false => match Nat.beq a.toNat b.toNat with | true => ltL x y | false => false
theorem eqL_iff : ∀ x y, eqL x y = (x == y)
  | [], [] => rfl
  | [], _ :: _ => rfl
  | _ :: _, [] => rfl
  | a :: x, b :: y => by
    rw [eqL, List.cons_beq_cons, eqL_iff x y]
    by_cases h : a = b
    · subst h; simp
    · have h' : a.toNat ≠ b.toNat := fun e => h (UInt8.toNat_inj.1 e)
      have h2 : Nat.beq a.toNat b.toNat = false := Bool.eq_false_iff.2 fun e => h' (Nat.eq_of_beq_eq_true e)
      rw [h2]; simp [h]
theorem ltL_eq : ∀ x y, ltL x y = Op.bytesLess x y
  | _, [] => by cases ‹List UInt8› <;> rfl
  | [], _ :: _ => rfl
  | a :: x, b :: y => by
    rw [ltL, Op.bytesLess, ltL_eq x y]
    by_cases h : a.toNat < b.toNat
    · have h1 : Nat.blt a.toNat b.toNat = true := by simpa using h
      rw [h1]
      have : a < b := UInt8.lt_iff_toNat_lt.2 h
      simp [this]
    · have h1 : Nat.blt a.toNat b.toNat = false := Bool.eq_false_iff.2 fun e => h (Nat.le_of_ble_eq_true e)
      have h2 : ¬ a < b := fun x => h (UInt8.lt_iff_toNat_lt.1 x)
      rw [h1]
      by_cases e : a = b
      · subst e; simp
      · have h' : a.toNat ≠ b.toNat := fun e' => e (UInt8.toNat_inj.1 e')
        have h3 : Nat.beq a.toNat b.toNat = false := Bool.eq_false_iff.2 fun e => h' (Nat.eq_of_beq_eq_true e)
        rw [h3]; simp [h2, e]
def scmpFn (op : BinOp) (x y : List UInt8) : Bool :=
  match op with
  | .eql => eqL x y
  | .neq => !eqL x y
  | .lss => ltL x y
  | .leq => ltL x y || eqL x y
  | .gtr => !(ltL x y || eqL x y)
  | .geq => !ltL x y
  | _ => false

mutual
def IE.den (ρ : Env) : IE → Int
  | .lit n => n
  | .var i => ρ.i i
  | .arith op k a b => arithFn op k (a.den ρ) (b.den ρ)
  | .conv k a => k.wrap (a.den ρ)
  | .len s => ((s.den ρ).length : Int)
  | .byte s i => ((((s.den ρ)[(i.den ρ).toNat]?).getD 0).toNat : Int)
  | .pick c a b => if c.den ρ then a.den ρ else b.den ρ
def BE.den (ρ : Env) : BE → Bool
  | .lit b => b
  | .var i => ρ.b i
  | .cmp op a b => cmpFn op (a.den ρ) (b.den ρ)
  | .scmp op a b => scmpFn op (a.den ρ) (b.den ρ)
  | .not a => !a.den ρ
  | .pick c a b => if c.den ρ then a.den ρ else b.den ρ
def SE.den (ρ : Env) : SE → List UInt8
  | .lit l => l
  | .var i => (ρ.s i).data.toList
  | .cat a b => a.den ρ ++ b.den ρ
  | .sub s lo hi => ((s.den ρ).take (hi.den ρ).toNat).drop (lo.den ρ).toNat
  | .snoc s b => s.den ρ ++ [UInt8.ofNat (b.den ρ).toNat]
  | .pick c a b => if c.den ρ then a.den ρ else b.den ρ
end

def SE.dens (ρ : Env) (s : SE) : ByteArray := ⟨(s.den ρ).toArray⟩

/-! ### Abstract values -/
inductive AFn where
  | conc (f : Fn)
  | yield (l : Nat)

inductive ACap where
  | lit (n : Nat)
  | own (sub : Nat)

inductive AVal where
  | bool (b : BE)
  | int (k : IntKind) (n : IE)
  | str (s : SE)
  | nilPtr
  | ptr (id off : Nat)
  | nilSlice
  | slice (id off len : Nat) (cap : ACap)
  | slice0
  | nilMap
  | map (id : Nat)
  | func (fn : AFn) (first captured : List AVal)
  | nilFunc
  | iface (t : TypeId) (v : AVal)
  | nilIface
  | agg (cs : List AVal)
  | tuple (vs : List AVal)

def AVal.undef : AVal := .tuple []

/-- Which block an id stands for, and the capacity of the slices that own it. -/
structure Rl where
  blk : Nat → Option Nat
  cap : Nat → Nat

def Rl.le (R R' : Rl) : Prop := ∀ id b, R.blk id = some b → R'.blk id = some b ∧ R'.cap id = R.cap id
theorem Rl.le.refl (R : Rl) : R.le R := fun _ _ h => ⟨h, rfl⟩
theorem Rl.le.trans {R R' R'' : Rl} (h : R.le R') (h' : R'.le R'') : R.le R'' := fun id b e =>
  let ⟨e1, c1⟩ := h id b e; let ⟨e2, c2⟩ := h' id b e1; ⟨e2, c2.trans c1⟩

def AFn.den (R : Rl) : AFn → Fn → Prop
  | .conc (.yield _), _ => False
  | .conc f, g => g = f
  | .yield l, g => ∃ b, R.blk l = some b ∧ g = .yield b
def ACap.den (R : Rl) (id : Nat) : ACap → Nat
  | .lit n => n
  | .own sub => R.cap id - sub

mutual
def VRel (ρ : Env) (R : Rl) : AVal → Value → Prop
  | .bool b, v => v = .bool (b.den ρ)
  | .int k n, v => v = .int k (n.den ρ)
  | .str s, v => v = .string (s.dens ρ)
  | .nilPtr, v => v = .pointer none
  | .ptr id off, v => ∃ b, R.blk id = some b ∧ v = .pointer (some ⟨b, off, none⟩)
  | .nilSlice, v => v = .slice none 0 0
  | .slice id off len cap, v => ∃ b, R.blk id = some b ∧ v = .slice (some ⟨b, off, none⟩) len (cap.den R id)
  | .slice0, v => ∃ a c, v = .slice (some a) 0 c
  | .nilMap, v => v = .map none
  | .map id, v => ∃ b, R.blk id = some b ∧ v = .map (some b)
  | .func fn first captured, v => ∃ g fs cs, fn.den R g ∧ v = .func g fs cs ∧ VRels ρ R first fs.toList ∧ VRels ρ R captured cs.toList
  | .nilFunc, v => v = .nilFunc
  | .iface t x, v => ∃ y, v = .iface t y ∧ VRel ρ R x y
  | .nilIface, v => v = .nilIface
  | .agg cs, v => ∃ vs : Array Value, v = .agg vs ∧ VRels ρ R cs vs.toList
  | .tuple xs, v => ∃ vs : Array Value, v = .tuple vs ∧ VRels ρ R xs vs.toList
def VRels (ρ : Env) (R : Rl) : List AVal → List Value → Prop
  | [], vs => vs = []
  | x :: xs, vs => ∃ v vs', vs = v :: vs' ∧ VRel ρ R x v ∧ VRels ρ R xs vs'
end

theorem AFn.den_mono {R R' : Rl} (h : R.le R') : ∀ (fn : AFn) (g : Fn), fn.den R g → fn.den R' g
  | .conc f, _, hg => by cases f <;> exact hg
  | .yield _, _, ⟨b, hb, e⟩ => ⟨b, (h _ _ hb).1, e⟩

mutual
theorem VRel.mono {ρ : Env} {R R' : Rl} (h : R.le R') : ∀ (x : AVal) (v : Value), VRel ρ R x v → VRel ρ R' x v
  | .bool _, _, e => e
  | .int _ _, _, e => e
  | .str _, _, e => e
  | .nilPtr, _, e => e
  | .ptr _ _, _, ⟨b, hb, e⟩ => ⟨b, (h _ _ hb).1, e⟩
  | .nilSlice, _, e => e
  | .slice id _ _ cap, _, ⟨b, hb, e⟩ => ⟨b, (h _ _ hb).1, by cases cap <;> simpa [ACap.den, (h _ _ hb).2] using e⟩
  | .slice0, _, e => e
  | .nilMap, _, e => e
  | .map _, _, ⟨b, hb, e⟩ => ⟨b, (h _ _ hb).1, e⟩
  | .func fn first captured, _, ⟨g, fs, cs, hg, e, h1, h2⟩ =>
    ⟨g, fs, cs, AFn.den_mono h fn g hg, e, VRels.mono h first _ h1, VRels.mono h captured _ h2⟩
  | .nilFunc, _, e => e
  | .iface _ x, _, ⟨y, e, hy⟩ => ⟨y, e, VRel.mono h x y hy⟩
  | .nilIface, _, e => e
  | .agg cs, _, ⟨vs, e, hv⟩ => ⟨vs, e, VRels.mono h cs _ hv⟩
  | .tuple xs, _, ⟨vs, e, hv⟩ => ⟨vs, e, VRels.mono h xs _ hv⟩
theorem VRels.mono {ρ : Env} {R R' : Rl} (h : R.le R') : ∀ (xs : List AVal) (vs : List Value), VRels ρ R xs vs → VRels ρ R' xs vs
  | [], _, e => e
  | x :: xs, _, ⟨v, vs', e, h1, h2⟩ => ⟨v, vs', e, VRel.mono h x v h1, VRels.mono h xs vs' h2⟩
end

theorem VRel.undef (ρ : Env) (R : Rl) : VRel ρ R AVal.undef Go.undef := by
  simp [AVal.undef, Go.undef, VRel, VRels]

section lists
variable {ρ : Env} {R : Rl}
theorem VRels.length : ∀ {xs : List AVal} {vs : List Value}, VRels ρ R xs vs → vs.length = xs.length
  | [], _, h => by simp only [VRels] at h; subst h; rfl
  | x :: xs, _, h => by
    simp only [VRels] at h
    obtain ⟨v, vs', rfl, _, h2⟩ := h
    simp [VRels.length h2]
theorem VRels.nil : VRels ρ R [] [] := rfl
theorem VRels.cons {x : AVal} {v : Value} {xs : List AVal} {vs : List Value} (h : VRel ρ R x v) (hs : VRels ρ R xs vs) : VRels ρ R (x :: xs) (v :: vs) :=
  ⟨v, vs, rfl, h, hs⟩
theorem VRels.append : ∀ {xs ys : List AVal} {vs us : List Value}, VRels ρ R xs vs → VRels ρ R ys us → VRels ρ R (xs ++ ys) (vs ++ us)
  | [], _, _, _, h, h' => by simp only [VRels] at h; subst h; simpa using h'
  | x :: xs, _, _, _, h, h' => by
    simp only [VRels] at h
    obtain ⟨v, vs', rfl, h1, h2⟩ := h
    exact VRels.cons h1 (VRels.append h2 h')
theorem VRels.get : ∀ {xs : List AVal} {vs : List Value} {i : Nat} {x : AVal}, VRels ρ R xs vs → xs[i]? = some x → ∃ v, vs[i]? = some v ∧ VRel ρ R x v
  | [], _, _, _, _, hx => by simp at hx
  | x :: xs, _, 0, _, h, hx => by
    simp only [VRels] at h
    obtain ⟨v, vs', rfl, h1, h2⟩ := h
    simp only [List.getElem?_cons_zero, Option.some.injEq] at hx
    subst hx
    exact ⟨v, rfl, h1⟩
  | x :: xs, _, i + 1, _, h, hx => by
    simp only [VRels] at h
    obtain ⟨v, vs', rfl, h1, h2⟩ := h
    simp only [List.getElem?_cons_succ] at hx ⊢
    exact VRels.get h2 hx
theorem VRels.take : ∀ {xs : List AVal} {vs : List Value} (n : Nat), VRels ρ R xs vs → VRels ρ R (xs.take n) (vs.take n)
  | _, _, 0, _ => by simp [VRels]
  | [], _, n + 1, h => by simp only [VRels] at h; subst h; simp [VRels]
  | x :: xs, _, n + 1, h => by
    simp only [VRels] at h
    obtain ⟨v, vs', rfl, h1, h2⟩ := h
    exact VRels.cons h1 (VRels.take n h2)
theorem VRels.drop : ∀ {xs : List AVal} {vs : List Value} (n : Nat), VRels ρ R xs vs → VRels ρ R (xs.drop n) (vs.drop n)
  | _, _, 0, h => by simpa using h
  | [], _, n + 1, h => by simp only [VRels] at h; subst h; simp [VRels]
  | x :: xs, _, n + 1, h => by
    simp only [VRels] at h
    obtain ⟨v, vs', rfl, h1, h2⟩ := h
    exact VRels.drop n h2
theorem VRels.set : ∀ {xs : List AVal} {vs : List Value} (i : Nat) {x : AVal} {v : Value}, VRels ρ R xs vs → VRel ρ R x v → VRels ρ R (xs.set i x) (vs.set i v)
  | [], _, _, _, _, h, _ => by simp only [VRels] at h; subst h; simp [VRels]
  | y :: xs, _, 0, _, _, h, hx => by
    simp only [VRels] at h
    obtain ⟨v, vs', rfl, h1, h2⟩ := h
    exact VRels.cons hx h2
  | y :: xs, _, i + 1, _, _, h, hx => by
    simp only [VRels] at h
    obtain ⟨v, vs', rfl, h1, h2⟩ := h
    exact VRels.cons h1 (VRels.set i h2 hx)
theorem VRels.split : ∀ {xs ys : List AVal} {vs : List Value}, VRels ρ R (xs ++ ys) vs → ∃ us ws, vs = us ++ ws ∧ VRels ρ R xs us ∧ VRels ρ R ys ws
  | [], ys, vs, h => ⟨[], vs, rfl, rfl, h⟩
  | x :: xs, ys, vs, h => by
    simp only [List.cons_append, VRels] at h
    obtain ⟨v, vs', rfl, h1, h2⟩ := h
    obtain ⟨us, ws, rfl, h3, h4⟩ := VRels.split h2
    exact ⟨v :: us, ws, rfl, VRels.cons h1 h3, h4⟩
end lists

def AVal.cells : AVal → List AVal
  | .agg cs => cs
  | v => [v]
theorem VRel.cells {ρ : Env} {R : Rl} : ∀ {x : AVal} {v : Value}, VRel ρ R x v → VRels ρ R x.cells v.cells.toList
  | .agg cs, _, ⟨vs, e, h⟩ => by subst e; exact h
  | .bool _, _, h => by cases h; exact VRels.cons (by simp [VRel]) .nil
  | .int _ _, _, h => by cases h; exact VRels.cons (by simp [VRel]) .nil
  | .str _, _, h => by cases h; exact VRels.cons (by simp [VRel]) .nil
  | .nilPtr, _, h => by cases h; exact VRels.cons (by simp [VRel]) .nil
  | .ptr _ _, _, ⟨b, hb, e⟩ => by subst e; exact VRels.cons ⟨b, hb, rfl⟩ .nil
  | .nilSlice, _, h => by cases h; exact VRels.cons (by simp [VRel]) .nil
  | .slice _ _ _ _, _, ⟨b, hb, e⟩ => by subst e; exact VRels.cons ⟨b, hb, rfl⟩ .nil
  | .slice0, _, ⟨a, c, e⟩ => by subst e; exact VRels.cons ⟨a, c, rfl⟩ .nil
  | .nilMap, _, h => by cases h; exact VRels.cons (by simp [VRel]) .nil
  | .map _, _, ⟨b, hb, e⟩ => by subst e; exact VRels.cons ⟨b, hb, rfl⟩ .nil
  | .func _ _ _, _, ⟨g, fs, cs, hg, e, h1, h2⟩ => by subst e; exact VRels.cons ⟨g, fs, cs, hg, rfl, h1, h2⟩ .nil
  | .nilFunc, _, h => by cases h; exact VRels.cons (by simp [VRel]) .nil
  | .iface _ _, _, ⟨y, e, hy⟩ => by subst e; exact VRels.cons ⟨y, rfl, hy⟩ .nil
  | .nilIface, _, h => by cases h; exact VRels.cons (by simp [VRel]) .nil
  | .tuple _, _, ⟨vs, e, hv⟩ => by subst e; exact VRels.cons ⟨vs, rfl, hv⟩ .nil
end Go.Sx
