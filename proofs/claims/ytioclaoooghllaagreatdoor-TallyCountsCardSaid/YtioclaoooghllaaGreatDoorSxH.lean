/-
  The abstract executor, part H: what makes memory, maps looked into, and the quiet operations as one function.
  No condition: definitions and lemmas.
-/
import Derived.Test.YtioclaoooghllaaGreatDoorSxG
namespace Go.Sx
open Go.Instr

section
variable {P : Program} {ρ : Env} {R : Rl} {w : World} {h : Tr ABlk}

theorem noFrz0 (n : Nat) : NoFrz n (0, 0) := fun i _ h => by simp at h

/-- A new row of cells. -/
theorem newRow_ok {s : Sem Value} {elem : TypeId} {vs : List AVal} {c : Array Value} {mk : NK} {g : Addr → Value}
    (hrun : s.run P w = .ok (g ⟨w.heap.size, 0, none⟩) { w with heap := w.heap.push (.cells c elem) }) (hv : VRels ρ R vs c.toList) (hm : ∀ R' : Rl, ∀ id b, R'.blk id = some b → VRel ρ R' (mk.val id) (g ⟨b, 0, none⟩)) :
    VOk P ρ R w s (.new (.cells elem vs true) mk) := by
  refine ⟨_, _, _, 0, hrun, rfl, ⟨rfl, rfl, rfl⟩, fun id hid => ⟨⟨c, (0, 0), rfl, hv.mono (Rl.push_le _ _ hid) _ _, fun _ => noFrz0 _⟩, hm _ id _ (Rl.push_blk _ _ _ _)⟩⟩

def pkAlloc (P : Program) (elem : TypeId) : Option PR := match zeroA P elem with | some z => some (.new (.cells elem z.cells true) .ptr) | none => none
theorem pkAlloc_ok {elem : TypeId} {r : PR} (hp : pkAlloc P elem = some r) : VOk P ρ R w (Instr.alloc elem true (.tuple #[])) r := by
  unfold pkAlloc at hp
  split at hp
  · rename_i z hz
    cases hp
    obtain ⟨v, h1, h2⟩ := run_zero w ρ R hz
    exact newRow_ok (g := fun a => .pointer (some a)) (c := v.cells) (by simp [Instr.alloc, h1, newVar, newRow]) h2.cells (fun R' id b hb => ⟨b, hb, rfl⟩)
  · cases hp
theorem pkBox_ok {elem : TypeId} {x : AVal} {u : Value} (hx : VRel ρ R x u) : VOk P ρ R w (Instr.box elem u) (.new (.cells elem x.cells true) .ptr) :=
  newRow_ok (g := fun a => .pointer (some a)) (c := u.cells) (by simp [Instr.box, newVar, newRow]) hx.cells (fun R' id b hb => ⟨b, hb, rfl⟩)

/-! ### build -/
def placesA (P : Program) : List Field → Option (List (Nat × Nat))
  | [] => some []
  | f :: fs => match szA P f.type with
    | none => none
    | some n => match placesA P fs with | none => none | some r => some ((f.offset, n) :: r)
theorem placesA_ok : ∀ {fs : List Field} {l : List (Nat × Nat)}, placesA P fs = some l → (fs.mapM (m := Sem) fun f => do pure (f.offset, ← sizeOf f.type)).run P w = .ok l w
  | [], l, hp => by cases hp; rfl
  | f :: fs, l, hp => by
    unfold placesA at hp
    split at hp
    · cases hp
    rename_i n hn
    split at hp
    · cases hp
    rename_i r hr
    cases hp
    rw [List.mapM_cons]
    simp only [Sem.run_bind, run_size w hn, Result.andThen_ok, Sem.run_pure, placesA_ok hr]

def evParts (ev : Operand → Option AVal) : List (Nat × Operand) → Option (List (Nat × AVal))
  | [] => some []
  | (i, x) :: l => match ev x with
    | none => none
    | some v => match evParts ev l with | none => none | some r => some ((i, v) :: r)

/-- What the operands stand for. -/
def EvOk (ρ : Env) (R : Rl) (ev : Operand → Option AVal) (σ : Operand → Value) (xs : List Operand) : Prop := ∀ x ∈ xs, ∀ v, ev x = some v → VRel ρ R v (σ x)

theorem evParts_ok {ev : Operand → Option AVal} {σ : Operand → Value} : ∀ {l : List (Nat × Operand)} {ps : List (Nat × AVal)}, EvOk ρ R ev σ (l.map (·.2)) → evParts ev l = some ps →
    (l.map fun x => (x.1, σ x.2)).map (·.1) = ps.map (·.1) ∧ VRels ρ R (ps.map (·.2)) ((l.map fun x => (x.1, σ x.2)).map (·.2))
  | [], ps, _, hp => by cases hp; exact ⟨rfl, rfl⟩
  | (i, x) :: l, ps, he, hp => by
    unfold evParts at hp
    split at hp
    · cases hp
    rename_i v hv
    split at hp
    · cases hp
    rename_i r hr
    cases hp
    obtain ⟨h1, h2⟩ := evParts_ok (fun y hy => he y (by simp at hy ⊢; exact .inr hy)) hr
    exact ⟨by simp only [List.map_cons]; rw [← h1], VRels.cons (he x (by simp) v hv) h2⟩

def pkBuild (P : Program) (ev : Operand → Option AVal) (t : TypeId) (parts : Array (Nat × Operand)) : Option AVal :=
  match zeroA P t, evParts ev parts.toList with
  | some z, some ps =>
    match P.underlying t with
    | some (.struct fields) => match placesA P fields.toList with
      | some pl => match fillA (fun i => pl[i]?) z.cells ps with | some l => some (.agg l) | none => none
      | none => none
    | some (.array _ elem) => match szA P elem with
      | some n => match fillA (fun i => some (i * n, n)) z.cells ps with | some l => some (.agg l) | none => none
      | none => none
    | _ => none
  | _, _ => none
theorem pkBuild_ok {ev : Operand → Option AVal} {σ : Operand → Value} {t : TypeId} {parts : Array (Nat × Operand)} {y : AVal} (he : EvOk ρ R ev σ (parts.toList.map (·.2))) (hp : pkBuild P ev t parts = some y) :
    VOk P ρ R w (Instr.build t (parts.map fun (i, x) => (i, σ x))) (.val y) := by
  unfold pkBuild at hp
  split at hp
  · rename_i z ps hz hps
    obtain ⟨v, h1, h2⟩ := run_zero w ρ R hz
    obtain ⟨h3, h4⟩ := evParts_ok he hps
    have hpl : (parts.map fun (x : Nat × Operand) => (x.1, σ x.2)).toList = parts.toList.map fun x => (x.1, σ x.2) := by simp
    split at hp
    · rename_i fields hd
      split at hp
      · rename_i pl hpl2
        split at hp
        · rename_i l hl
          cases hp
          obtain ⟨c', h5, h6⟩ := run_fill hl h2.cells h3 h4
          refine ⟨.agg c', ?_, c', rfl, h6⟩
          have hm := placesA_ok (w := w) hpl2
          rw [← hpl] at h5
          simp only [Instr.build, Sem.run_bind, h1, Result.andThen_ok, run_und w hd]
          rw [Array.mapM_eq_mapM_toList]
          simp only [Sem.run_map, hm, Result.andThen_ok]
          have hpe : (fun (i : Nat) => (pl.toArray[i]? : Option (Nat × Nat))) = fun i => pl[i]? := by funext i; simp
          rw [hpe]
          erw [h5]
          rfl
        · cases hp
      · cases hp
    · rename_i n elem hd
      split at hp
      · rename_i n hn
        split at hp
        · rename_i l hl
          cases hp
          obtain ⟨c', h5, h6⟩ := run_fill hl h2.cells h3 h4
          refine ⟨.agg c', ?_, c', rfl, h6⟩
          rw [← hpl] at h5
          simp only [Instr.build, Sem.run_bind, h1, Result.andThen_ok, run_und w hd, run_size w hn]
          erw [h5]
          rfl
        · cases hp
      · cases hp
    · cases hp
  · cases hp

def pkBuildSlice (P : Program) (ev : Operand → Option AVal) (t : TypeId) (len : Nat) (parts : Array (Nat × Operand)) : Option PR :=
  match P.underlying t, evParts ev parts.toList with
  | some (.slice elem), some ps =>
    match szA P elem, Nat.ble len 10000 with
    | some n, true =>
      match Nat.beq (len * n) 0 with
      | true => match fillA (fun i => some (i * n, n)) [] ps with | some l => some (.new (.cells elem l true) (.slice len (.lit len))) | none => none
      | false =>
        match zeroA P elem with
        | none => none
        | some z =>
          match Nat.beq z.cells.length n, Nat.ble n 1000, Nat.beq n 0 with
          | true, true, false => match fillA (fun i => some (i * n, n)) (repA z.cells len) ps with | some l => some (.new (.cells elem l true) (.slice len (.lit len))) | none => none
          | _, _, _ => none
    | _, _ => none
  | _, _ => none

theorem pkBuildSlice_ok {ev : Operand → Option AVal} {σ : Operand → Value} {t : TypeId} {len : Nat} {parts : Array (Nat × Operand)} {r : PR} (he : EvOk ρ R ev σ (parts.toList.map (·.2))) (hp : pkBuildSlice P ev t len parts = some r) :
    VOk P ρ R w (Instr.buildSlice t len (parts.map fun (i, x) => (i, σ x))) r := by
  unfold pkBuildSlice at hp
  split at hp
  · rename_i elem ps hd hps
    obtain ⟨h3, h4⟩ := evParts_ok he hps
    have hpl : (parts.map fun (x : Nat × Operand) => (x.1, σ x.2)).toList = parts.toList.map fun x => (x.1, σ x.2) := by simp
    rw [← hpl] at h3 h4
    split at hp
    · rename_i n hn hle
      have hle := Nat.le_of_ble_eq_true hle
      split at hp
      · rename_i h0
        have h0 := Nat.eq_of_beq_eq_true h0
        split at hp
        · rename_i l hl
          cases hp
          obtain ⟨c', h5, h6⟩ := run_fill (c := #[]) hl (by simp [VRels]) h3 h4
          refine newRow_ok (g := fun a => .slice (some a) len len) (c := c') ?_ h6 (fun R' id b hb => ⟨b, hb, rfl⟩)
          simp only [Instr.buildSlice, Sem.run_bind, run_und w hd, Result.andThen_ok, run_size w hn]
          rw [if_neg (by rw [h0]; omega), if_pos h0]
          simp only [Sem.run_bind, Sem.run_pure, Result.andThen_ok]
          have e0 : Array.map (fun (x : Nat) => (#[] : Array Value)[x % (#[] : Array Value).size]!) (Array.range (len * n)) = #[] := by rw [h0]; simp
          rw [e0]
          erw [h5]
          simp [newRow]
        · cases hp
      · rename_i h0
        split at hp
        · cases hp
        · rename_i z hz
          split at hp
          · rename_i hzl hnl hn0
            have hzl := Nat.eq_of_beq_eq_true hzl
            have hnl := Nat.le_of_ble_eq_true hnl
            have hn0 : n ≠ 0 := fun e => by subst e; simp at hn0
            have hm : len * n ≠ 0 := fun e => by rw [e] at h0; simp at h0
            split at hp
            · rename_i l hl
              cases hp
              obtain ⟨v, h1, h2⟩ := run_zero w ρ R hz
              have hrep := rep_rel h2.cells (fun e => hn0 (by rw [← hzl, e]; rfl)) len
              rw [hzl] at hrep
              obtain ⟨c', h5, h6⟩ := run_fill hl hrep h3 h4
              refine newRow_ok (g := fun a => .slice (some a) len len) (c := c') ?_ h6 (fun R' id b hb => ⟨b, hb, rfl⟩)
              simp only [Instr.buildSlice, Sem.run_bind, run_und w hd, Result.andThen_ok, run_size w hn]
              have hb : len * n ≤ 10000 * 1000 := Nat.mul_le_mul hle hnl
              rw [if_neg (by omega), if_neg hm]
              simp only [Sem.run_bind, Sem.run_pure, Result.andThen_ok, h1]
              erw [h5]
              simp [newRow]
            · cases hp
          · cases hp
    · cases hp
  · cases hp

/-! ### make -/
def pkMakeMap (P : Program) (t : TypeId) : Option AVal → Bool → Option PR
  | none, false => some (.new (.map []) .map)
  | some v, true => match P.underlying t, v with
    | some (.map _ _), .int _ _ => some (.new (.map []) .map)
    | _, _ => none
  | _, _ => none
theorem newMap_ok {s : Sem Value} (hrun : s.run P w = .ok (.map (some w.heap.size)) { w with heap := w.heap.push (.map #[] 0) }) : VOk P ρ R w s (.new (.map []) .map) :=
  ⟨_, _, _, 0, hrun, rfl, ⟨rfl, rfl, rfl⟩, fun _ _ => ⟨⟨#[], 0, rfl, rfl, MapKept.stamped_empty 0⟩, _, Rl.push_blk _ _ _ _, rfl⟩⟩
theorem pkMakeMap_ok {t : TypeId} {r : Option AVal} {u : Option Value} {b : Bool} {y : PR} (hr : ∀ v, r = some v → ∃ x, u = some x ∧ VRel ρ R v x) (hu : u.isSome = b) (hp : pkMakeMap P t r b = some y) : VOk P ρ R w (Instr.makeMap t u) y := by
  unfold pkMakeMap at hp
  split at hp
  · cases hp
    cases u with
    | none => exact newMap_ok (by simp [Instr.makeMap])
    | some x => simp at hu
  · rename_i v
    obtain ⟨x, rfl, hx⟩ := hr v rfl
    split at hp
    · rename_i hd
      cases hp
      obtain rfl := VRel_int hx
      exact newMap_ok (by simp [Instr.makeMap, run_und w hd, asInt, asIntOf])
    · cases hp
  · cases hp

def pkMakeSlice (P : Program) (t : TypeId) (l c : AVal) : Option PR :=
  match P.underlying t with
  | some (.slice elem) =>
    match natI l, natI c, P.info? elem, zeroA P elem with
    | some l, some c, some i, some z =>
      match Nat.ble l c, Nat.ble c 1000000, Nat.ble i.bytes 100000, Nat.beq z.cells.length i.size, Nat.beq i.size 0 with
      | true, true, true, true, false => some (.new (.cells elem (repA z.cells c) true) (.slice l (.lit c)))
      | _, _, _, _, _ => none
    | _, _, _, _ => none
  | _ => none
theorem wrap_small (n : Nat) (h : n < 9223372036854775808) : IntKind.i64.wrap (n : Int) = n := by
  have := wrapF_eq .i64 (Int.ofNat n)
  simp only [wrapF] at this
  have hb : Nat.blt n 9223372036854775808 = true := Nat.ble_eq_true_of_le h
  rw [hb] at this
  exact this.symm
theorem pkMakeSlice_ok {t : TypeId} {l c : AVal} {u v : Value} {y : PR} (hl : VRel ρ R l u) (hc : VRel ρ R c v) (hp : pkMakeSlice P t l c = some y) : VOk P ρ R w (Instr.makeSlice t u v) y := by
  unfold pkMakeSlice at hp
  split at hp
  · rename_i elem hd
    split at hp
    · rename_i ln cn i z h1 h2 hi hz
      obtain ⟨k1, rfl⟩ := natI_some hl h1
      obtain ⟨k2, rfl⟩ := natI_some hc h2
      split at hp
      · rename_i g1 g2 g3 g4 g5
        cases hp
        have g1 := Nat.le_of_ble_eq_true g1
        have g2 := Nat.le_of_ble_eq_true g2
        have g3 := Nat.le_of_ble_eq_true g3
        have g4 := Nat.eq_of_beq_eq_true g4
        have g5 : i.size ≠ 0 := fun e => by rw [e] at g5; simp at g5
        obtain ⟨zv, z1, z2⟩ := run_zero w ρ R hz
        have hrep := rep_rel z2.cells (fun e => g5 (by rw [← g4, e]; rfl)) cn
        rw [g4] at hrep
        have hs : szA P elem = some i.size := by simp [szA, hi]
        have hb : i.bytes * cn ≤ 100000000000 := Nat.le_trans (Nat.mul_le_mul g3 g2) (by decide)
        have hb' : ((i.bytes : Int) * (cn : Int)) = ((i.bytes * cn : Nat) : Int) := (Int.natCast_mul _ _).symm
        refine newRow_ok (g := fun a => .slice (some a) ln cn) (c := (Array.range (cn * i.size)).map (zv.cells[· % zv.cells.size]!)) ?_ hrep (fun R' id b hb => ⟨b, hb, rfl⟩)
        simp only [Instr.makeSlice, Sem.run_bind, run_und w hd, Result.andThen_ok, asInt, asIntOf, Sem.run_pure, run_info w hi, wrap_small ln (by omega), wrap_small cn (by omega), Int.toNat_natCast]
        rw [if_neg]
        · simp only [run_askRoom, Sem.run_bind, Result.andThen_ok, run_size w hs]
          by_cases h0 : cn * i.size = 0
          · rw [if_pos h0]
            have e0 : ∀ f : Nat → Value, (Array.range (cn * i.size)).map f = #[] := fun f => by rw [h0]; simp
            simp [newRow, e0]
          · rw [if_neg h0]
            simp [z1, newRow]
        · simp only [Bool.or_eq_true, decide_eq_true_eq, hb']
          omega
      · cases hp
    · cases hp
  · cases hp
end
end Go.Sx
