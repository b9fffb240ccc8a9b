/-
  The abstract executor, part M: code, calls, rounds of a range over a function, regions whose order is open.
  No condition: definitions.
-/
import Derived.Test.YtioclaoooghllaaGreatDoorSxL
import Derived.Orders
import Derived.CheckFast
namespace Go.Sx
open Go.Instr

/-! ### Are two abstract values one? -/
mutual
def IE.eqb : IE → IE → Bool
  | .lit a, .lit b => eqI a b
  | .var i, .var j => Nat.beq i j
  | .arith op k a b, .arith op' k' a' b' => match decide (op = op'), decide (k = k'), a.eqb a', b.eqb b' with | true, true, true, true => true | _, _, _, _ => false
  | .conv k a, .conv k' a' => match decide (k = k'), a.eqb a' with | true, true => true | _, _ => false
  | .len s, .len s' => s.eqb s'
  | .byte s i, .byte s' i' => match s.eqb s', i.eqb i' with | true, true => true | _, _ => false
  | .pick c a b, .pick c' a' b' => match c.eqb c', a.eqb a', b.eqb b' with | true, true, true => true | _, _, _ => false
  | _, _ => false
def BE.eqb : BE → BE → Bool
  | .lit a, .lit b => match a, b with | true, true => true | false, false => true | _, _ => false
  | .var i, .var j => Nat.beq i j
  | .cmp op a b, .cmp op' a' b' => match decide (op = op'), a.eqb a', b.eqb b' with | true, true, true => true | _, _, _ => false
  | .scmp op a b, .scmp op' a' b' => match decide (op = op'), a.eqb a', b.eqb b' with | true, true, true => true | _, _, _ => false
  | .not a, .not a' => a.eqb a'
  | .pick c a b, .pick c' a' b' => match c.eqb c', a.eqb a', b.eqb b' with | true, true, true => true | _, _, _ => false
  | _, _ => false
def SE.eqb : SE → SE → Bool
  | .lit a, .lit b => eqL a b
  | .var i, .var j => Nat.beq i j
  | .cat a b, .cat a' b' => match a.eqb a', b.eqb b' with | true, true => true | _, _ => false
  | .sub s a b, .sub s' a' b' => match s.eqb s', a.eqb a', b.eqb b' with | true, true, true => true | _, _, _ => false
  | .snoc s b, .snoc s' b' => match s.eqb s', b.eqb b' with | true, true => true | _, _ => false
  | .pick c a b, .pick c' a' b' => match c.eqb c', a.eqb a', b.eqb b' with | true, true, true => true | _, _, _ => false
  | _, _ => false
end
def ACap.eqb : ACap → ACap → Bool
  | .lit a, .lit b => Nat.beq a b
  | .own a, .own b => Nat.beq a b
  | _, _ => false
def AFn.eqb : AFn → AFn → Bool
  | .conc f, .conc g => decide (f = g)
  | .yield l, .yield l' => Nat.beq l l'
  | _, _ => false
mutual
def AVal.eqb : AVal → AVal → Bool
  | .bool a, .bool b => a.eqb b
  | .int k a, .int k' b => match decide (k = k'), a.eqb b with | true, true => true | _, _ => false
  | .str a, .str b => a.eqb b
  | .nilPtr, .nilPtr => true
  | .ptr i o, .ptr i' o' => match Nat.beq i i', Nat.beq o o' with | true, true => true | _, _ => false
  | .nilSlice, .nilSlice => true
  | .slice i o n c, .slice i' o' n' c' => match Nat.beq i i', Nat.beq o o', Nat.beq n n', c.eqb c' with | true, true, true, true => true | _, _, _, _ => false
  | .slice0, .slice0 => true
  | .nilMap, .nilMap => true
  | .map i, .map j => Nat.beq i j
  | .func f a b, .func f' a' b' => match f.eqb f', eqbs a a', eqbs b b' with | true, true, true => true | _, _, _ => false
  | .nilFunc, .nilFunc => true
  | .iface t v, .iface t' v' => match Nat.beq t t', v.eqb v' with | true, true => true | _, _ => false
  | .nilIface, .nilIface => true
  | .agg a, .agg b => eqbs a b
  | .tuple a, .tuple b => eqbs a b
  | _, _ => false
def eqbs : List AVal → List AVal → Bool
  | [], [] => true
  | a :: x, b :: y => match a.eqb b, eqbs x y with | true, true => true | _, _ => false
  | _, _ => false
end
def NK.eqb : NK → NK → Bool
  | .ptr, .ptr => true
  | .map, .map => true
  | .slice n c, .slice n' c' => match Nat.beq n n', c.eqb c' with | true, true => true | _, _ => false
  | _, _ => false
def ABlk.eqb : ABlk → ABlk → Bool
  | .cells e a w, .cells e' a' w' => match Nat.beq e e', eqbs a a', w, w' with | true, true, true, true => true | _, _, _, _ => false
  | .grow e a n, .grow e' a' n' => match Nat.beq e e', eqbs a a', Nat.beq n n' with | true, true, true => true | _, _, _ => false
  | .map [], .map [] => true
  | .strIter s p, .strIter s' p' => match s.eqb s', Nat.beq p p' with | true, true => true | _, _ => false
  | _, _ => false
def PR.eqb : PR → PR → Bool
  | .val a, .val b => a.eqb b
  | .new x k, .new y k' => match x.eqb y, k.eqb k' with | true, true => true | _, _ => false
  | _, _ => false

/-! ### Outcomes -/
inductive Tree (τ : Type) where
  | done (x : τ)
  | ite (c : BE) (t e : Tree τ)
  | need (c : BE) (t : Tree τ)
  | stuck (why : String) (fn : Nat) (pos : String)

def Tree.sat {τ : Type} (ρ : Env) (Q : τ → Prop) : Tree τ → Prop
  | .done x => Q x
  | .ite c t e => if c.den ρ = true then t.sat ρ Q else e.sat ρ Q
  | .need c t => c.den ρ = true ∧ t.sat ρ Q
  | .stuck _ _ _ => False

def Tree.needs {τ : Type} : List BE → Tree τ → Tree τ
  | [], t => t
  | c :: l, t => match c with | .lit true => Tree.needs l t | c => .need c (Tree.needs l t)

inductive AEx where
  | normal
  | exit (id : Nat)
  | ret

/-- A frame's state. -/
structure AS where
  nt : Nat
  tm : Tr AVal
  marks : List Nat
  m : AM

def AS.put (s : AS) (dst : Option Tmp) (v : AVal) : AS :=
  match dst with
  | none => s
  | some d => match Nat.blt d s.nt with | true => ⟨s.nt, s.tm.set d v, s.marks, s.m⟩ | false => s
def AS.mem (s : AS) (m : AM) : AS := ⟨s.nt, s.tm, s.marks, m⟩
/-- What a quiet operation leaves. -/
def AS.putR (s : AS) (dst : Option Tmp) : PR → AS
  | .val v => s.put dst v
  | .new x nk => (s.mem (s.m.push x)).put dst (nk.val s.m.nx)

structure Cx where
  fn : FuncId
  round : Option Nat

inductive Job (τ : Type) where
  | code (cx : Cx) (c : Code) (s : AS) (k : AEx → AS → Tree τ)
  | call (f : FuncId) (args : List AVal) (m : AM) (k : AVal → AM → Tree τ)
  | round (l : Nat) (args : List AVal) (m : AM) (k : AVal → AM → Tree τ)

/-- What is given from outside: functions by contract. -/
abbrev Prim := FuncId → List AVal → AM → Option (AVal × AM)

def evA (G : Nat) (tm : Tr AVal) : Operand → Option AVal
  | .tmp t => some (tmv tm t)
  | .const v => absV v
  | .global g => match Nat.blt g G with | true => some (.ptr g 0) | false => none
  | .func f => some (.func (.conc (.func f)) [] [])

inductive Tgt where
  | fn (f : FuncId) (args : List AVal)
  | yield (l : Nat) (args : List AVal)

def resolveA (P : Program) (ev : Operand → Option AVal) (c : Call) : Option Tgt :=
  match evL ev c.args.toList with
  | none => none
  | some args =>
    match c.callee with
    | .value f => match ev f with
      | some (.func (.conc (.func fid)) first captured) => some (.fn fid (first ++ args ++ captured))
      | some (.func (.yield l) first _) => some (.yield l (first ++ args))
      | some (.func (.conc (.method name)) first _) => match first ++ args with
        | recv :: rest => match methA P recv name with | some (f, v) => some (.fn f (v :: rest)) | none => none
        | [] => none
      | _ => none
    | .invoke recv name => match ev recv with
      | some recv => match methA P recv name with | some (f, v) => some (.fn f (v :: args)) | none => none
      | none => none
    | .builtin _ => none

/-- Is the operation wanted? ('none': it hangs on what is not reckoned out.) -/
inductive Want where
  | yes
  | no
  | on (c : BE) (want : Bool)
def wantA (ops : Array Oper) (tm : Tr AVal) (g : Option (Nat × Bool)) : Want :=
  match g with
  | none => .yes
  | some (j, want) =>
    match ops[j]? with
    | none => .no
    | some o => match o.dst with
      | none => .no
      | some t => match tmv tm t with
        | .bool (.lit b) => match b, want with | true, true => .yes | false, false => .yes | _, _ => .no
        | .bool c => .on c want
        | _ => .no

def resA (P : Program) (tm : Tr AVal) (h : Tr ABlk) : List ResultVar → Option (List AVal)
  | [] => some []
  | .tmp t :: l => match resA P tm h l with | some r => some (tmv tm t :: r) | none => none
  | .cell a t :: l => match tmv tm a with
    | .ptr id off => match pkLoad P h t (.ptr id off) with
      | some v => match resA P tm h l with | some r => some (v :: r) | none => none
      | none => none
    | _ => none
def oneA : List AVal → AVal
  | [v] => v
  | l => .tuple l

def closeM : List Nat → AM → Option AM
  | [], m => some m
  | d :: l, m => match m.h.get d with | some .deferred => closeM l (m.drop d) | _ => none

def setAll (nt : Nat) : List Tmp → List AVal → Tr AVal → Tr AVal
  | t :: ts, v :: vs, tm => setAll nt ts vs (match Nat.blt t nt with | true => tm.set t v | false => tm)
  | _, _, tm => tm

def jumpA : AEx → Option Code
  | .normal => none
  | .exit id => some (.exit id)
  | .ret => some .ret

/-- Does an operation turn memory, or run code? -/
def isEff : Op → Bool
  | .store .. | .mapUpdate .. | .insert .. | .next .. => true
  | .call ⟨.builtin b, _, _⟩ => match b with | .append | .copy | .clear | .delete | .unsafeString => true | _ => false
  | .call _ => true
  | _ => false

/-- In a region whose order is open an assignment to a variable keeps its place, too. -/
def isEffD : Op → Bool
  | .assign _ => true
  | op => isEff op

/-! ### The same, in a form that unfolds into little -/
abbrev PkT := Program → Tr ABlk → (Operand → Option AVal) → Option (List BE × PR)
def pV (o : Option AVal) : Option (List BE × PR) := match o with | some x => some ([], .val x) | none => none
def pR (o : Option PR) : Option (List BE × PR) := match o with | some x => some ([], x) | none => none
def pNo : PkT := fun _ _ _ => none
def pMove (x : Operand) : PkT := fun _ _ ev => pV (ev x)
def pPick (c a b : Operand) : PkT := fun _ _ ev => match ev c, ev a, ev b with | some c, some a, some b => pV (pkPick c a b) | _, _, _ => none
def pAlloc (t : TypeId) : PkT := fun P _ _ => pR (pkAlloc P t)
def pBox (t : TypeId) (x : Operand) : PkT := fun _ _ ev => match ev x with | some x => some ([], .new (.cells t x.cells true) .ptr) | none => none
def pBuild (t : TypeId) (parts : Array (Nat × Operand)) : PkT := fun P _ ev => pV (pkBuild P ev t parts)
def pBuildSlice (t : TypeId) (len : Nat) (parts : Array (Nat × Operand)) : PkT := fun P _ ev => pR (pkBuildSlice P ev t len parts)
def pLoad (t : TypeId) (a : Operand) : PkT := fun P h ev => match ev a with | some a => pV (pkLoad P h t a) | none => none
def pNil (x : Operand) : PkT := fun P _ ev => match ev x with | some x => (match nilFits P x with | true => some ([], .val x) | false => none) | none => none
def pBin (op : BinOp) (t : TypeId) (x y : Operand) (_ : TypeId) : PkT := fun P _ ev => match ev x, ev y with
  | some a, some b => match pkBin P op t x y a b with | some (l, z) => some (l, .val z) | none => none
  | _, _ => none
def pUn (op : UnOp) (_ : TypeId) (x : Operand) : PkT := fun _ _ ev => match ev x with | some x => pV (pkUn op x) | none => none
def pConv (s d : TypeId) (x : Operand) : PkT := fun P h ev => match ev x with | some x => pR (pkConv P h s d x) | none => none
def pMkI (t : TypeId) (x : Operand) : PkT := fun P _ ev => match ev x with | some x => pV (pkMkIface P t x) | none => none
def pMkF (fn : Fn) (first captured : Array Operand) : PkT := fun _ _ ev => match fnA fn, evL ev first.toList, evL ev captured.toList with | some f, some a, some b => some ([], .val (.func f a b)) | _, _, _ => none
def pMkM (t : TypeId) (o : Option Operand) : PkT := fun P _ ev => match o with
  | none => pR (pkMakeMap P t none false)
  | some x => match ev x with | some x => pR (pkMakeMap P t (some x) true) | none => none
def pMkS (t : TypeId) (l c : Operand) : PkT := fun P _ ev => match ev l, ev c with | some l, some c => pR (pkMakeSlice P t l c) | _, _ => none
def pSlice (t : TypeId) (x : Operand) (lo hi mx : Option Operand) : PkT := fun P h ev => match ev x, evO ev lo, evO ev hi, evO ev mx with | some x, some lo, some hi, some mx => pV (pkSlice P h t x lo hi mx) | _, _, _, _ => none
def pFA (t : TypeId) (x : Operand) (f : Nat) : PkT := fun P _ ev => match ev x with | some x => pV (pkFieldAddr P t x f) | none => none
def pF (t : TypeId) (x : Operand) (f : Nat) : PkT := fun P _ ev => match ev x with | some x => pV (pkField P t x f) | none => none
def pIA (t : TypeId) (x i : Operand) : PkT := fun P _ ev => match ev x, ev i with | some x, some i => pV (pkIndexAddr P t x i) | _, _ => none
def pI (t : TypeId) (x i : Operand) : PkT := fun P _ ev => match ev x, ev i with
  | some x, some i => match pkIndex P t x i with | some (l, z) => some (l, .val z) | none => none
  | _, _ => none
def pLk (t : TypeId) (x i : Operand) (ok : Bool) : PkT := fun P h ev => match ev x, ev i with | some x, some i => pV (pkLookup P h t x i ok) | _, _ => none
def pRng (t : TypeId) (x : Operand) : PkT := fun P _ ev => match ev x with | some x => pR (pkRange P t x) | none => none
def pTA (x : Operand) (_ t : TypeId) (ok : Bool) : PkT := fun P _ ev => match ev x with | some x => pV (pkAssert P x t ok) | none => none
def pEx (x : Operand) (i : Nat) : PkT := fun _ _ ev => match ev x with | some x => pV (pkExtract x i) | none => none
def pCall (c : Call) : PkT := fun P h ev => peek P h ev (.call c)

def peekF (P : Program) (h : Tr ABlk) (ev : Operand → Option AVal) (op : Op) : Option (List BE × PR) :=
  Op.casesOn (motive := fun _ => PkT) op pMove pMove pPick pAlloc pBox pBuild pBuildSlice (fun _ _ _ _ => pNo) pLoad (fun _ _ _ => pNo) (fun _ => pNo) (fun _ => pNo) pNil pBin pUn pConv (fun _ _ => pNo) pMkI pMkF pMkM (fun _ _ => pNo) pMkS
    pSlice pFA pF pIA pI pLk (fun _ _ _ _ => pNo) (fun _ _ _ => pNo) (fun _ _ _ _ => pNo) pRng (fun _ _ => pNo) (fun _ => pNo) pTA pEx pCall (fun _ => pNo) (fun _ => pNo) (fun _ => pNo) (fun _ _ => pNo) (fun _ _ _ => pNo) (fun _ _ => pNo) P h ev
theorem peekF_eq (P : Program) (h : Tr ABlk) (ev : Operand → Option AVal) (op : Op) : peekF P h ev op = peek P h ev op := by
  cases op with
  | makeMap t o => cases o <;> rfl
  | _ => rfl
def isEffC (c : Call) : Bool := isEff (.call c)
def isEffF (op : Op) : Bool :=
  Op.casesOn (motive := fun _ => Bool) op (fun _ => false) (fun _ => false) (fun _ _ _ => false) (fun _ => false) (fun _ _ => false) (fun _ _ => false) (fun _ _ _ => false) (fun _ _ _ _ => true) (fun _ _ => false) (fun _ _ _ => true) (fun _ => false) (fun _ => false) (fun _ => false) (fun _ _ _ _ _ => false) (fun _ _ _ => false) (fun _ _ _ => false) (fun _ _ => false) (fun _ _ => false) (fun _ _ _ => false) (fun _ _ => false) (fun _ _ => false) (fun _ _ _ => false)
    (fun _ _ _ _ _ => false) (fun _ _ _ => false) (fun _ _ _ => false) (fun _ _ _ => false) (fun _ _ _ => false) (fun _ _ _ _ => false) (fun _ _ _ _ => true) (fun _ _ _ => false) (fun _ _ _ _ => false) (fun _ _ => false) (fun _ _ => true) (fun _ => false) (fun _ _ _ _ => false) (fun _ _ => false) isEffC (fun _ => false) (fun _ => false) (fun _ => false) (fun _ _ => false) (fun _ _ _ => false) (fun _ _ => false)
theorem isEffF_eq (op : Op) : isEffF op = isEff op := by cases op <;> rfl

section
variable {τ : Type} (P : Program) (G : Nat) (rec : Job τ → Tree τ)

/-- A call, wherever it stands. -/
def doCall (t : Option Tgt) (m : AM) (fn : Nat) (pos : String) (k : AVal → AM → Tree τ) : Tree τ :=
  match t with
  | some (.fn f args) => rec (.call f args m k)
  | some (.yield l args) => rec (.round l args m k)
  | none => .stuck "call" fn pos

/-- An operation that turns memory, or runs code. -/
def doEff (cx : Cx) (s : AS) (o : Oper) (k : AS → Tree τ) : Tree τ :=
  match eff P s.m (evA G s.tm) o.op with
  | some (v, m) => k ((s.mem m).put o.dst v)
  | none => match o.op with
    | .call ⟨.builtin _, _, _⟩ => .stuck "builtin" cx.fn o.pos
    | .call c => doCall rec (resolveA P (evA G s.tm) c) s.m cx.fn o.pos fun v m => k ((s.mem m).put o.dst v)
    | _ => .stuck "effect" cx.fn o.pos

def doOp (cx : Cx) (s : AS) (o : Oper) (k : AS → Tree τ) : Tree τ :=
  match isEffF o.op with
  | true => doEff P G rec cx s o k
  | false => match peekF P s.m.h (evA G s.tm) o.op with
    | some (l, r) => Tree.needs l (k (s.putR o.dst r))
    | none => .stuck "quiet" cx.fn o.pos

def stepOp (cx : Cx) (ops : Array Oper) (s : AS) (o : Oper) (k : AS → Tree τ) : Tree τ :=
  match wantA ops s.tm o.guard with
  | .yes => doOp P G rec cx s o k
  | .no => k (s.put o.dst AVal.undef)
  | .on c true => .ite c (doOp P G rec cx s o k) (k (s.put o.dst AVal.undef))
  | .on c false => .ite c (k (s.put o.dst AVal.undef)) (doOp P G rec cx s o k)

/-- Operations one behind the other. -/
def runOps (cx : Cx) (ops : Array Oper) : List Oper → AS → (AS → Tree τ) → Tree τ
  | [], s, k => k s
  | o :: l, s, k => stepOp P G rec cx ops s o fun s => runOps cx ops l s k

/-! ### A region whose order is open -/
/-- A quiet operation with its guard. -/
def peekG (ops : Array Oper) (s : AS) (o : Oper) : Option PR :=
  match wantA ops s.tm o.guard with
  | .yes => match peekF P s.m.h (evA G s.tm) o.op with
    | some ([], r) => some r
    | _ => none
  | .no => some (.val AVal.undef)
  | .on _ _ => none

/-- One that has been done ahead: its number, what it came to, the block that it made. -/
structure Rec where
  i : Nat
  o : Oper
  r : PR
  id : Nat

/-- All quiet operations that no effect still to come stands ahead of. 'left': the effects still to come, as bits. -/
def eager (ops : Array Oper) (anc : List Nat) (left : Nat) : List (Nat × Oper) → AS → List Rec → List (Nat × Oper) → Option (AS × List Rec × List (Nat × Oper))
  | [], s, recs, rest => some (s, recs, rest.reverse)
  | (i, o) :: l, s, recs, rest =>
    match Nat.beq (Nat.land ((anc[i]?).getD 0) left) 0 with
    | false => eager ops anc left l s recs ((i, o) :: rest)
    | true => match peekG P G ops s o with
      | some r => eager ops anc left l (s.putR o.dst r) (⟨i, o, r, s.m.nx⟩ :: recs) rest
      | none => none

/-- What its temporary holds. -/
def Rec.v (c : Rec) : AVal := match c.r with | .val v => v | .new _ nk => nk.val c.id
def dstSame (s : AS) (c : Rec) : Bool := match c.o.dst with
  | none => true
  | some d => match Nat.blt d s.nt with | true => (tmv s.tm d).eqb c.v | false => false
def blkSame (s : AS) (c : Rec) : Bool := match c.r with
  | .val _ => true
  | .new x _ => match s.m.h.get c.id with | some y => y.eqb x | none => false
/-- Would they come to the same now? And stands what they came to? -/
def stable (ops : Array Oper) (s : AS) : List Rec → Bool
  | [] => true
  | c :: l => match peekG P G ops s c.o with
    | some r => match r.eqb c.r, dstSame s c, blkSame s c with | true, true, true => stable ops s l | _, _, _ => false
    | none => false

/-- The blocks of those that are apart from an effect, taken away; and what they hold. -/
def hideB (mask : Nat) : List Rec → Tr ABlk → Option (Tr ABlk × List (Nat × ABlk))
  | [], h => some (h, [])
  | c :: l, h => match c.r with
    | .val _ => hideB mask l h
    | .new x _ => match Nat.testBit mask c.i with
      | true => hideB mask l h
      | false => match hideB mask l (h.del c.id) with
        | some (h', hid) => some (h', (c.id, x) :: hid)
        | none => none
def showB : List (Nat × ABlk) → Tr ABlk → Tr ABlk
  | [], h => h
  | (id, x) :: l, h => showB l (h.set id x)

def effBits : List (Nat × Oper) → Nat
  | [] => 0
  | (i, _) :: l => Nat.lor (Nat.shiftLeft 1 i) (effBits l)

/-- Have all of them an effect ahead? -/
def allBehind (anc : List Nat) (i : Nat) : List (Nat × Oper) → Bool
  | [] => true
  | (j, _) :: l => match Nat.testBit ((anc[j]?).getD 0) i with | true => allBehind anc i l | false => false

def notBehind (anc : List Nat) (i : Nat) (mask : Nat) : List Rec → List Rec
  | [] => []
  | c :: l => match Nat.testBit mask c.i with | true => notBehind anc i mask l | false => c :: notBehind anc i mask l

def drawnGo (cx : Cx) (ops : Array Oper) (anc : List Nat) : List (Nat × Oper) → List (Nat × Oper) → AS → List Rec → (AS → Tree τ) → Tree τ
  | [], quiet, s, recs, k =>
    match eager P G ops anc 0 quiet s recs [] with
    | some (s, recs, []) => match stable P G ops s recs with | true => k s | false => .stuck "unstable" cx.fn ""
    | _ => .stuck "eager" cx.fn ""
  | (i, o) :: effs, quiet, s, recs, k =>
    match eager P G ops anc (Nat.lor (Nat.shiftLeft 1 i) (effBits effs)) quiet s recs [] with
    | some (s, recs, quiet) =>
      match stable P G ops s recs, allBehind anc i effs with
      | true, true =>
        let mask := (anc[i]?).getD 0
        match hideB mask recs s.m.h with
        | some (h, hid) =>
          let recs := notBehind anc i mask recs
          stepOp P G rec cx ops (s.mem ⟨h, s.m.nx⟩) o fun s =>
            drawnGo cx ops anc effs quiet (s.mem ⟨showB hid s.m.h, s.m.nx⟩) recs k
        | none => .stuck "hide" cx.fn o.pos
      | false, _ => .stuck "unstable" cx.fn o.pos
      | _, false => .stuck "order of effects" cx.fn o.pos
    | none => .stuck "eager" cx.fn o.pos

def mentions (ops : Array Oper) (o : Oper) (t : Tmp) : Bool :=
  (match o.dst with | some d => Nat.beq d t | none => false) || (o.looksAt ops).any (Nat.beq t)

/-- Each quiet operation's temporary is its own: all others that name it stand behind it. -/
def ownTmps (ops : Array Oper) (anc : List Nat) (all : List (Nat × Oper)) : Bool :=
  all.all fun (i, o) => isEffD o.op || match o.dst with
    | none => true
    | some d => !((o.looksAt ops).any (Nat.beq d)) && all.all fun (j, q) => Nat.beq i j || !mentions ops q d || Nat.testBit ((anc[j]?).getD 0) i

def number : List Oper → Nat → List (Nat × Oper)
  | [], _ => []
  | o :: l, i => (i, o) :: number l (i + 1)

/-- Does each edge that binds lead back? -/
def fwdAll : List (Nat × Oper) → Bool
  | [] => true
  | (i, o) :: l => match o.after.toList.all (fun e => !Region.binds .any e || Nat.blt e.on i) with | true => fwdAll l | false => false

def drawn (cx : Cx) (ops : Array Oper) (s : AS) (k : AS → Tree τ) : Tree τ :=
  let all := number ops.toList 0
  let anc := (CheckFast.beforeF ops).toList
  match ownTmps ops anc all && fwdAll all with
  | true => drawnGo P G rec cx ops anc (all.filter fun x => isEffD x.2.op) (all.filter fun x => !isEffD x.2.op) s [] k
  | false => .stuck "temporaries" cx.fn ""

/-! ### Code -/
variable (prim : Prim)

def stepCode (cx : Cx) (c : Code) (s : AS) (k : AEx → AS → Tree τ) : Tree τ :=
  match c with
  | .skip => k .normal s
  | .label _ => k .normal s
  | .seq a b => rec (.code cx a s fun e s => match e with | .normal => rec (.code cx b s k) | e => k e s)
  | .cond c x y => match evA G s.tm c with
    | some (.bool (.lit true)) => rec (.code cx x s k)
    | some (.bool (.lit false)) => rec (.code cx y s k)
    | some (.bool b) => .ite b (rec (.code cx x s k)) (rec (.code cx y s k))
    | _ => .stuck "cond" cx.fn ""
  | .block id c => rec (.code cx c s fun e s => match e with
    | .exit i => match Nat.beq i id with | true => k .normal s | false => k (.exit i) s
    | e => k e s)
  | .loop b => rec (.code cx b s fun e s => match e with | .normal => rec (.code cx (.loop b) s k) | e => k e s)
  | .exit id => k (.exit id) s
  | .ret => k .ret s
  | .scope c => rec (.code cx c s k)
  | .region _ ops false => runOps P G rec cx ops ops.toList s (k .normal)
  | .region _ ops true => drawn P G rec cx ops s (k .normal)
  | .rangeFunc f ps as bd =>
    let go (marks : List Nat) (m : AM) (l : Nat) : Tree τ :=
      doCall rec (match evA G s.tm f with
        | some (.func (.conc (.func fid)) first captured) => some (.fn fid (first ++ [.func (.yield l) [] []] ++ captured))
        | _ => none) m cx.fn "range" fun _ m =>
        match m.h.get l with
        | some (.loop .busy _ _ _ _ _ _ _ _) => .stuck "busy" cx.fn "range"
        | some (.loop _ pe fn nt tm ps as bd df) =>
          let s' : AS := ⟨s.nt, s.tm, marks, m.upd l (.loop .exhausted pe fn nt tm ps as bd df)⟩
          match pe with
          | none => k .normal s'
          | some .ret => k .ret s'
          | some (.exit id) => k (.exit id) s'
          | _ => .stuck "jump" cx.fn "range"
        | _ => .stuck "loop" cx.fn "range"
    match cx.round with
    | none =>
      let m1 := s.m.push .deferred
      go (s.m.nx :: s.marks) (m1.push (.loop .ready none cx.fn s.nt s.tm ps.toList as bd s.m.nx)) m1.nx
    | some l0 => match s.m.h.get l0 with
      | some (.loop _ _ _ _ _ _ _ _ df) => go s.marks (s.m.push (.loop .ready none cx.fn s.nt s.tm ps.toList as bd df)) s.m.nx
      | _ => .stuck "around" cx.fn "range"
  | .goto _ => .stuck "goto" cx.fn ""
  | .refuse why => .stuck why cx.fn ""

abbrev CoT (τ : Type) := Program → Nat → (Job τ → Tree τ) → Cx → AS → (AEx → AS → Tree τ) → Tree τ
def cNorm : CoT τ := fun _ _ _ _ s k => k .normal s
def cSeq (a b : Code) : CoT τ := fun _ _ rec cx s k => rec (.code cx a s fun e s => match e with | .normal => rec (.code cx b s k) | e => k e s)
def cCond (c : Operand) (x y : Code) : CoT τ := fun _ G rec cx s k => match evA G s.tm c with
    | some (.bool (.lit true)) => rec (.code cx x s k)
    | some (.bool (.lit false)) => rec (.code cx y s k)
    | some (.bool b) => .ite b (rec (.code cx x s k)) (rec (.code cx y s k))
    | _ => .stuck "cond" cx.fn ""
def cBlock (id : Nat) (c : Code) : CoT τ := fun _ _ rec cx s k => rec (.code cx c s fun e s => match e with
    | .exit i => match Nat.beq i id with | true => k .normal s | false => k (.exit i) s
    | e => k e s)
def cLoop (b : Code) : CoT τ := fun _ _ rec cx s k => rec (.code cx b s fun e s => match e with | .normal => rec (.code cx (.loop b) s k) | e => k e s)
def cRegion (_ : Nat) (ops : Array Oper) (d : Bool) : CoT τ := fun P G rec cx s k => match d with
  | false => runOps P G rec cx ops ops.toList s (k .normal)
  | true => drawn P G rec cx ops s (k .normal)
def cRange (f : Operand) (ps : Array Tmp) (as bd : Code) : CoT τ := fun P G rec cx s k => stepCode P G rec cx (.rangeFunc f ps as bd) s k
def stepCodeF (cx : Cx) (c : Code) (s : AS) (k : AEx → AS → Tree τ) : Tree τ :=
  Code.casesOn (motive := fun _ => CoT τ) c cNorm cRegion cSeq cCond cBlock cLoop cRange (fun id _ _ _ _ s k => k (.exit id) s) (fun c _ _ rec cx s k => rec (.code cx c s k)) (fun _ => cNorm) (fun _ _ _ _ cx _ _ => .stuck "goto" cx.fn "") (fun _ _ _ _ s k => k .ret s) (fun why _ _ _ cx _ _ => .stuck why cx.fn "") P G rec cx s k
theorem stepCodeF_eq (cx : Cx) (c : Code) (s : AS) (k : AEx → AS → Tree τ) : stepCodeF P G rec cx c s k = stepCode P G rec cx c s k := by
  cases c with
  | region id ops d => cases d <;> rfl
  | _ => rfl

def stepCall (f : FuncId) (args : List AVal) (m : AM) (k : AVal → AM → Tree τ) : Tree τ :=
  match prim f args m with
  | some (v, m) => k v m
  | none => match P.funcs[f]? with
    | some fn => match fn.body with
      | some c => rec (.code ⟨f, none⟩ c ⟨Nat.max args.length fn.ntmps, Tr.ofL args 0 .nil, [], m⟩ fun e s => match e with
        | .exit _ => .stuck "exit" f ""
        | _ => match closeM s.marks s.m with
          | some m => match resA P s.tm m.h fn.results.toList with
            | some l => k (oneA l) m
            | none => .stuck "results" f ""
          | none => .stuck "marks" f "")
      | none => .stuck "no body" f ""
    | none => .stuck "no function" f ""

def stepRound (l : Nat) (args : List AVal) (m : AM) (k : AVal → AM → Tree τ) : Tree τ :=
  match m.h.get l with
  | some (.loop _ _ fn nt tm ps as bd _) =>
    match Nat.beq args.length ps.length with
    | false => .stuck "yield" fn ""
    | true => rec (.code ⟨fn, some l⟩ as ⟨nt, setAll nt ps args tm, [], m⟩ fun e s => match e with
      | .normal => match s.m.h.get l with
        | some (.loop .ready pe fn' nt' tm' ps' as' bd' df') =>
          rec (.code ⟨fn, some l⟩ bd ⟨s.nt, s.tm, s.marks, s.m.upd l (.loop .busy pe fn' nt' tm' ps' as' bd' df')⟩ fun e s =>
            match s.m.h.get l with
            | some (.loop _ _ fn' nt' tm' ps' as' bd' df') =>
              match jumpA e with
              | none => k (.bool (.lit true)) (s.m.upd l (.loop .ready none fn' nt' tm' ps' as' bd' df'))
              | some j => k (.bool (.lit false)) (s.m.upd l (.loop .done (some j) fn' nt' tm' ps' as' bd' df'))
            | _ => .stuck "loop" fn "")
        | _ => .stuck "not ready" fn ""
      | _ => .stuck "assign" fn "")
  | _ => .stuck "loop" 0 ""

def stepJob : Job τ → Tree τ
  | .code cx c s k => stepCodeF P G rec cx c s k
  | .call f args m k => stepCall P rec prim f args m k
  | .round l args m k => stepRound rec l args m k
end

def exec {τ : Type} (P : Program) (G : Nat) (prim : Prim) : Nat → Job τ → Tree τ
  | 0, _ => .stuck "fuel" 0 ""
  | n + 1, j => stepJob P G (exec P G prim n) prim j
end Go.Sx
