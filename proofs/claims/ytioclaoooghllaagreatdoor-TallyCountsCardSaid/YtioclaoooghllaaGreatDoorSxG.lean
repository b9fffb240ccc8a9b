/-
  The abstract executor, part G: the rest of the quiet operations.
  No condition: definitions and lemmas.
-/
import Derived.Test.YtioclaoooghllaaGreatDoorSxF
namespace Go.Sx
open Go.Instr

section
variable {P : Program} {ρ : Env} {R : Rl} {w : World} {h : Tr ABlk}

/-! ### Unary -/
def pkUn (op : UnOp) (x : AVal) : Option AVal :=
  match op, x with
  | .neg, .int k n => some (.int k (mkArith .sub k (.lit 0) n))
  | .xor, .int k n => some (.int k (mkArith .xor k (.lit (if k.signed then -1 else k.max)) n))
  | .not, .bool b => some (.bool (mkNot b))
  | _, _ => none
theorem pkUn_ok {op : UnOp} {x y : AVal} {u : Value} (hx : VRel ρ R x u) (hp : pkUn op x = some y) : VOk P ρ R w (Op.unary op u) (.val y) := by
  unfold pkUn at hp
  split at hp
  · cases hp; obtain rfl := VRel_int hx
    exact ⟨_, by simp [Op.unary, Op.intArith]; rfl, by simp [VRel, arithFn, IE.den]⟩
  · cases hp; obtain rfl := VRel_int hx
    exact ⟨_, by simp [Op.unary, Op.intBits]; rfl, by simp [VRel, arithFn, IE.den]⟩
  · cases hp; obtain rfl := VRel_bool hx
    exact ⟨_, by simp [Op.unary]; rfl, by simp [VRel]⟩
  · cases hp

/-! ### Conversions -/
def byteL : List AVal → Option (List UInt8)
  | [] => some []
  | .int .u8 (.lit (.ofNat n)) :: l => match byteL l with | some r => forceN n fun n => some (UInt8.ofNat n :: r) | none => none
  | _ => none
def byteV (u : Value) : UInt8 := match u with | .int _ n => UInt8.ofNat n.toNat | _ => 0
/-- The bytes of cells, reckoned out or not. -/
def byteS : List AVal → SE → Option SE
  | [], s => some s
  | .int .u8 n :: l, s => byteS l (mkSnoc s n)
  | _, _ => none

def bytesA (l : List AVal) : Option SE := match byteL l with | some r => some (.lit r) | none => byteS l (.lit [])

theorem byteL_ok : ∀ {l : List AVal} {r : List UInt8} {us : List Value}, VRels ρ R l us → byteL l = some r → us.map byteV = r ∧ ∀ u ∈ us, ∃ n, u = .int .u8 n
  | [], r, us, hl, hp => by cases hp; simp only [VRels] at hl; subst hl; simp
  | x :: l, r, us, hl, hp => by
    obtain ⟨u, us', rfl, hu, hl⟩ := hl
    unfold byteL at hp
    split at hp
    · rename_i e; cases e
    · rename_i n l' e
      cases e
      split at hp
      · rename_i r' hr
        rw [forceN_eq] at hp
        cases hp
        obtain ⟨h1, h2⟩ := byteL_ok hl hr
        obtain rfl := VRel_int hu
        refine ⟨by simp only [List.map_cons, h1]; rfl, ?_⟩
        intro u hu
        rcases List.mem_cons.1 hu with rfl | hu
        · exact ⟨_, rfl⟩
        · exact h2 u hu
      · cases hp
    · cases hp
theorem byteS_ok : ∀ {l : List AVal} {s r : SE} {us : List Value}, VRels ρ R l us → byteS l s = some r → r.den ρ = s.den ρ ++ us.map byteV ∧ ∀ u ∈ us, ∃ n, u = .int .u8 n
  | [], s, r, us, hl, hp => by cases hp; simp only [VRels] at hl; subst hl; simp
  | x :: l, s, r, us, hl, hp => by
    obtain ⟨u, us', rfl, hu, hl⟩ := hl
    unfold byteS at hp
    split at hp
    · rename_i e; cases e
    · rename_i n l' s' e
      cases e
      obtain ⟨h1, h2⟩ := byteS_ok hl hp
      obtain rfl := VRel_int hu
      refine ⟨by rw [h1]; simp [byteV], ?_⟩
      intro u hu
      rcases List.mem_cons.1 hu with rfl | hu
      · exact ⟨_, rfl⟩
      · exact h2 u hu
    · cases hp
theorem bytesA_ok {l : List AVal} {r : SE} {us : List Value} (hl : VRels ρ R l us) (hp : bytesA l = some r) : r.den ρ = us.map byteV ∧ ∀ u ∈ us, ∃ n, u = .int .u8 n := by
  unfold bytesA at hp
  split at hp
  · rename_i r' hr
    cases hp
    obtain ⟨h1, h2⟩ := byteL_ok hl hr
    exact ⟨by simp [SE.den, h1], h2⟩
  · obtain ⟨h1, h2⟩ := byteS_ok hl hp
    exact ⟨by rw [h1]; simp [SE.den], h2⟩

def bytesLit (l : List UInt8) : List AVal := l.map fun b => .int .u8 (.lit (.ofNat b.toNat))

theorem bytesLit_ok {R : Rl} : ∀ l : List UInt8, VRels ρ R (bytesLit l) (l.map fun b => .int .u8 b.toNat)
  | [] => rfl
  | _ :: l => VRels.cons rfl (bytesLit_ok l)

/-- Is an address the beginning of a variable of a type? (For conversions from unsafe.Pointer.) -/
def liesA (P : Program) (h : Tr ABlk) (id off : Nat) (u : TypeId) (n : Nat) : Bool :=
  match h.get id with
  | some (.cells e vs _) => liesAt P P.depth e (vs.length / P.cellsOf e) off u n
  | _ => false

def pkConv (P : Program) (h : Tr ABlk) (src dst : TypeId) (x : AVal) : Option PR :=
  match P.underlying src, P.underlying dst with
  | some sd, some (.int k) => match sd, x with
    | .unsafePointer, _ => none
    | _, .int _ n => some (.val (.int k (mkConv k n)))
    | _, _ => none
  | some sd, some .string => match x with
    | .str s => some (.val (.str s))
    | .nilSlice => match sd with
      | .slice e => match P.underlying e with | some (.int .u8) => some (.val (.str (.lit []))) | _ => none
      | _ => none
    | .slice id off len _ => match sd with
      | .slice e => match P.underlying e with
        | some (.int .u8) => match h.get id with
          | some b => match b.vals with
            | some vs => match segL vs off len with
              | some l => match bytesA l with | some s => some (.val (.str s)) | none => none
              | none => none
            | none => none
          | none => none
        | _ => none
      | _ => none
    | _ => none
  | some _, some (.slice e) => match x with
    | .str (.lit l) => match P.underlying e with
      | some (.int .u8) => some (.new (.grow e (bytesLit l) 1) (.slice l.length (.own 0)))
      | _ => none
    | _ => none
  | some (.pointer t), some .unsafePointer => match x with
    | .nilPtr => some (.val .nilPtr)
    | .ptr id off => match h.get id, szA P t with
      | some (.cells _ vs _), some (_ + 1) => match Nat.blt off vs.length with | true => some (.val x) | false => none
      | _, _ => none
    | _ => none
  | some .unsafePointer, some (.pointer u) => match x with
    | .nilPtr => some (.val .nilPtr)
    | .ptr id off => match liesA P h id off u 1, szA P u with | true, some _ => some (.val x) | _, _ => none
    | _ => none
  | some .unsafePointer, some .unsafePointer => match x with
    | .nilPtr => some (.val .nilPtr)
    | .ptr _ _ => some (.val x)
    | _ => none
  | _, _ => none

theorem bytesFold (msg : String) : ∀ (us : List Value) (s : ByteArray), (∀ u ∈ us, ∃ n, u = .int .u8 n) →
    (forIn us s (fun c s => match c with
      | .int .u8 n => do pure (ForInStep.yield (s.push (UInt8.ofNat n.toNat)))
      | _ => do
        stuck msg
        pure (ForInStep.yield s)) : Sem ByteArray).run P w =
    .ok ⟨(s.data.toList ++ us.map byteV).toArray⟩ w
  | [], s, _ => by simp
  | u :: us, s, hu => by
    obtain ⟨n, rfl⟩ := hu u (by simp)
    rw [List.forIn_cons]
    simp only [Sem.run_bind, Sem.run_pure, Result.andThen_ok]
    rw [bytesFold msg us _ (fun u h => hu u (by simp [h]))]
    simp [ByteArray.push, byteV]

theorem seenAt_cells {b : Nat} {c : Array Value} {e : TypeId} {fr : Nat × Nat} (a : Addr) (ha : a.block = b) (hb : w.heap[b]? = some (.cells c e fr)) : (Conv.seenAt a).run P w = .ok a w := by
  simp [Conv.seenAt, viewAt, World.shape?, ha, hb]

theorem pkConv_ok {src dst : TypeId} {x : AVal} {u : Value} {r : PR} (hh : HeapOk ρ R h w) (hx : VRel ρ R x u) (hp : pkConv P h src dst x = some r) : VOk P ρ R w (convert src dst u) r := by
  unfold pkConv at hp
  split at hp
  · rename_i sd k hs hd
    split at hp
    · cases hp
    · rename_i k' n hne
      cases hp
      obtain rfl := VRel_int hx
      refine ⟨.int k (k.wrap (n.den ρ)), ?_, by simp [VRel]⟩
      simp only [convert, Sem.run_bind, run_und w hs, run_und w hd, Result.andThen_ok]
      rfl
    · cases hp
  · rename_i sd hs hd
    split at hp
    · cases hp
      obtain rfl := VRel_str hx
      refine ⟨_, ?_, rfl⟩
      simp only [convert, Sem.run_bind, run_und w hs, run_und w hd, Result.andThen_ok]
      rfl
    · split at hp
      · split at hp
        · rename_i hu8
          cases hp
          cases hx
          refine ⟨.string .empty, ?_, by simp only [VRel, SE.dens, SE.den]; rfl⟩
          simp only [convert, Sem.run_bind, run_und w hs, run_und w hd, Result.andThen_ok, run_und w hu8, Conv.bytesToString, Sem.run_pure]
        · cases hp
      · cases hp
    · rename_i id off len cap
      split at hp
      · split at hp
        · rename_i hu8
          split at hp
          · rename_i y hy
            split at hp
            · rename_i vs hvs
              split at hp
              · rename_i l hl
                split at hp
                · rename_i s hsb
                  cases hp
                  obtain ⟨b, hb, rfl⟩ := hx
                  obtain ⟨o, ho, hr⟩ := hh id y b hy hb
                  obtain ⟨us, h1, h2⟩ := run_loadSeg (P := P) ho hr hvs hl
                  obtain ⟨h3, h4⟩ := bytesA_ok h2 hsb
                  refine ⟨.string (s.dens ρ), ?_, rfl⟩
                  simp only [convert, Sem.run_bind, run_und w hs, run_und w hd, Result.andThen_ok, run_und w hu8, Conv.bytesToString, h1]
                  rw [← Array.forIn_toList]
                  have := fun msg => bytesFold (P := P) (w := w) msg us .empty h4
                  simp only [Sem.run_pure] at this ⊢
                  erw [this]
                  simp only [Result.andThen_ok]
                  congr 2
                  simp [SE.dens, h3]
                · cases hp
              · cases hp
            · cases hp
          · cases hp
        · cases hp
      · cases hp
    · cases hp
  · rename_i sd e hs hd
    split at hp
    · rename_i l
      split at hp
      · rename_i hu8
        cases hp
        obtain rfl := VRel_str hx
        have hsz : ((SE.lit l).dens ρ).size = l.length := by simp [SE.dens, SE.den, ByteArray.size]
        let cap := (Question.appendCap l.length 0 e).cut (w.tape w.drawn (Question.appendCap l.length 0 e))
        have hcap : l.length ≤ cap := Nat.le_add_right _ _
        let arr : Array Value := (((SE.lit l).dens ρ).data.map fun b => .int .u8 b.toNat) ++ Array.replicate (cap - l.length) (.int .u8 0)
        have harr : arr.size = cap := by
          simp only [arr, Array.size_append, Array.size_map, Array.size_replicate]
          have : ((SE.lit l).dens ρ).data.size = l.length := hsz
          omega
        refine ⟨.slice (some ⟨w.heap.size, 0, none⟩) l.length cap, { w with heap := w.heap.push (.cells arr e (arr.size, arr.size + 1)), drawn := w.drawn + 1 }, .cells arr e (arr.size, arr.size + 1), cap, ?_, rfl, ⟨rfl, rfl, rfl⟩, ?_⟩
        · simp only [convert, Sem.run_bind, run_und w hs, run_und w hd, Result.andThen_ok, run_und w hu8, Conv.stringToBytes, run_choose, Question.forced, Bool.false_eq_true, if_false, hsz]
          simp only [newRow, Sem.run_bind, run_newObj, Result.andThen_ok, Sem.run_pure, markStringish, run_shape, World.shape?]
          simp only [Array.getElem?_push_size]
          simp only [run_freeze, Result.andThen_ok, World.freeze]
          rw [if_neg (by decide)]
          congr 2
          apply Array.ext_getElem?
          intro i
          rw [Array.getElem?_modify, Array.getElem?_push, Array.getElem?_push]
          by_cases hi : w.heap.size = i
          · subst hi; simp [arr, cap]
          · rw [if_neg hi, if_neg (fun e => hi e.symm)]
            rw [if_neg (fun e => hi e.symm)]
        · intro id hid
          refine ⟨⟨arr, _, ((SE.lit l).dens ρ).data.toList.map (fun b => .int .u8 b.toNat), List.replicate (cap - l.length) (.int .u8 0), rfl, by simp [arr], ?_, ?_, ?_⟩, w.heap.size, Rl.push_blk _ _ _ _, ?_⟩
          · simp only [SE.dens, SE.den, bytesLit]
            exact bytesLit_ok l
          · rw [Rl.push_cap, harr]; simp
          · intro i hi; simp only; omega
          · simp [ACap.den, Rl.push_cap]
      · cases hp
    · cases hp
  · rename_i t hs hd
    split at hp
    · cases hp
      cases hx
      exact ⟨_, by simp [convert, run_und w hs, run_und w hd, Conv.unsafePointer], rfl⟩
    · rename_i id off
      split at hp
      · rename_i e vs wr n hy hsz
        split at hp
        · rename_i hlt
          cases hp
          obtain ⟨b, hb, rfl⟩ := hx
          obtain ⟨o, ho, c, fr, rfl, hv, _⟩ := hh id _ b hy hb
          have hlt := blt_true hlt
          have hcl := hv.length
          simp only [Array.length_toList] at hcl
          refine ⟨_, ?_, b, hb, rfl⟩
          simp only [convert, Sem.run_bind, run_und w hs, run_und w hd, Result.andThen_ok, Conv.unsafePointer, seenAt_cells ⟨b, off, none⟩ rfl ho]
          simp [cellsIn, World.shape?, ho, run_size w hsz]
          omega
        · cases hp
      · cases hp
    · cases hp
  · rename_i t hs hd
    split at hp
    · cases hp
      cases hx
      exact ⟨_, by simp [convert, run_und w hs, run_und w hd, Conv.unsafePointer], rfl⟩
    · rename_i id off
      split at hp
      · rename_i n hlies hszu
        cases hp
        unfold liesA at hlies
        split at hlies
        · rename_i e vs wr hy
          obtain ⟨b, hb, rfl⟩ := hx
          obtain ⟨o, ho, c, fr, rfl, hv, _⟩ := hh id _ b hy hb
          have hcl := hv.length
          simp only [Array.length_toList] at hcl
          refine ⟨_, ?_, b, hb, rfl⟩
          simp only [convert, Sem.run_bind, run_und w hs, run_und w hd, Result.andThen_ok, Conv.unsafePointer, seenAt_cells ⟨b, off, none⟩ rfl ho]
          simp only [variablesAt, Sem.run_bind, run_program, run_shape, World.shape?, ho, Result.andThen_ok, Sem.run_pure, run_size w hszu, hcl, hlies]
          simp
        · cases hlies
      · cases hp
    · cases hp
  · rename_i hs hd
    split at hp
    · cases hp; cases hx
      exact ⟨_, by simp [convert, run_und w hs, run_und w hd, Conv.unsafePointer], rfl⟩
    · cases hp; obtain ⟨b, hb, rfl⟩ := hx
      exact ⟨_, by simp [convert, run_und w hs, run_und w hd, Conv.unsafePointer], b, hb, rfl⟩
    · cases hp
  · cases hp
end
end Go.Sx
