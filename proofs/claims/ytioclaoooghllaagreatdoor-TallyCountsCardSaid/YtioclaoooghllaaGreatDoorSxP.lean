/-
  The abstract executor, part P: functions given by contract (definitions).
-/
import Derived.Test.YtioclaoooghllaaGreatDoorSxM
namespace Go.Sx

inductive PK where
  | noEscape
  | count
  | indexByte
  | makeNoZero (elem : TypeId)
  | sorted (elem : TypeId) (iters : List Nat)
  | awake

def countL (b : Nat) : List UInt8 → Nat → Nat
  | [], n => n
  | a :: l, n => match Nat.beq a.toNat b with | true => countL b l (n + 1) | false => countL b l n
def idxL (b : Nat) : List UInt8 → Nat → Option Nat
  | [], _ => none
  | a :: l, i => match Nat.beq a.toNat b with | true => some i | false => idxL b l (i + 1)
def insL (x : List UInt8) : List (List UInt8) → List (List UInt8)
  | [] => [x]
  | y :: l => match ltL x y with | true => x :: y :: l | false => y :: insL x l
def sortL : List (List UInt8) → List (List UInt8)
  | [] => []
  | x :: l => insL x (sortL l)
def keysL : List (AVal × AVal) → Option (List (List UInt8))
  | [] => some []
  | (.str (.lit k), _) :: l => match keysL l with | some r => some (k :: r) | none => none
  | _ => none

def shortL : List (List UInt8) → Bool
  | [] => true
  | k :: l => match Nat.ble k.length 1000000 with | true => shortL l | false => false

def runPK (k : PK) (args : List AVal) (m : AM) : Option (AVal × AM) :=
  match k, args with
  | .noEscape, [x] => some (x, m)
  | .awake, [] => some (.bool (.lit true), m)
  | .count, [.str (.lit l), .int .u8 (.lit (.ofNat b))] => match Nat.blt b 256 with
    | true => some (.int .i64 (.lit (.ofNat (countL b l 0))), m)
    | false => none
  | .indexByte, [.str (.lit l), .int .u8 (.lit (.ofNat b))] => match Nat.blt b 256 with
    | true => some (.int .i64 (.lit (match idxL b l 0 with | some i => .ofNat i | none => -1)), m)
    | false => none
  | .makeNoZero e, [.int .i64 (.lit (.ofNat n))] => match Nat.ble n 281474976710656 with
    | true => some (.slice m.nx 0 n (.own 0), m.push (.grow e [] 1))
    | false => none
  | .sorted e gs, [.func (.conc (.func g)) [] [.ptr pid 0]] =>
    match gs.any (Nat.beq g) with
    | true => match m.h.get pid with
      | some (.cells _ [.map id] _) => match m.h.get id with
        | some (.map es) => match keysL es with
          | some ks => match ks with
            | [] => some (.nilSlice, m)
            | k :: l => match Nat.ble (k :: l).length 1000000, shortL (k :: l) with
              | true, true => some (.slice m.nx 0 (k :: l).length (.own 0), m.push (.grow e ((sortL (k :: l)).map fun l => .str (.lit l)) 1))
              | _, _ => none
          | none => none
        | _ => none
      | _ => none
    | false => none
  | _, _ => none

def primOf (tbl : Tr PK) : Prim := fun f args m => match tbl.get f with | some k => runPK k args m | none => none

/-- A call that answers true. -/
def trueT : Tree Bool → Bool
  | .done b => b
  | _ => false
def isTrue (v : AVal) : Tree Bool := match v with | .bool (.lit b) => .done b | _ => .stuck "answer" 0 ""
end Go.Sx
