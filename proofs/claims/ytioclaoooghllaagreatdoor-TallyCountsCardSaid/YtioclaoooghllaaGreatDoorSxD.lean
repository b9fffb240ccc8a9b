/-
  The abstract executor, part D: the quiet operations, one by one, and that they do what the model's do.
  No condition: definitions and lemmas.
-/
import Derived.Test.YtioclaoooghllaaGreatDoorSxC
namespace Go.Sx
open Go.Instr

inductive NK where
  | ptr
  | map
  | slice (len : Nat) (cap : ACap)
def NK.val (id : Nat) : NK → AVal
  | .ptr => .ptr id 0
  | .map => .map id
  | .slice n c => .slice id 0 n c

inductive PR where
  | val (v : AVal)
  | new (x : ABlk) (mk : NK)

/-- The blocks that an id stands for hold what is told of it. -/
def HeapOk (ρ : Env) (R : Rl) (h : Tr ABlk) (w : World) : Prop := ∀ id x b, h.get id = some x → R.blk id = some b → ∃ o, w.heap[b]? = some o ∧ BRel ρ R id x o
theorem MemInv.ok {ρ : Env} {R : Rl} {m : AM} {w : World} (hi : MemInv ρ R m w) : HeapOk ρ R m.h w := by
  intro id x b hx hb
  obtain ⟨b', o, hb', ho, hr⟩ := hi.rel id x hx
  rw [hb] at hb'; cases hb'
  exact ⟨o, ho, hr⟩

def VOk (P : Program) (ρ : Env) (R : Rl) (w : World) (s : Sem Value) : PR → Prop
  | .val v => ∃ u, s.run P w = .ok u w ∧ VRel ρ R v u
  | .new x mk => ∃ u w' o c, s.run P w = .ok u w' ∧ w'.heap = w.heap.push o ∧ SameRest w w' ∧
      ∀ id, R.blk id = none → BRel ρ (R.push id w.heap.size c) id x o ∧ VRel ρ (R.push id w.heap.size c) (mk.val id) u

section
variable {P : Program} {ρ : Env} {R : Rl} {w : World} {h : Tr ABlk}

/-! ### load -/
def pkLoad (P : Program) (h : Tr ABlk) (t : TypeId) (v : AVal) : Option AVal :=
  match v with
  | .ptr id off =>
    match h.get id with
    | some x =>
      match x.vals with
      | some vs =>
        match aggA P t with
        | some true => match szA P t with
          | some n => match segL vs off n with | some l => some (.agg l) | none => none
          | none => none
        | some false => vs[off]?
        | none => none
      | none => none
    | none => none
  | _ => none

theorem loadVar_ok {t : TypeId} {id off b : Nat} {x : AVal} (hh : HeapOk ρ R h w) (hb : R.blk id = some b) (hp : pkLoad P h t (.ptr id off) = some x) :
    ∃ u, (loadVar t ⟨b, off, none⟩).run P w = .ok u w ∧ VRel ρ R x u := by
  unfold pkLoad at hp
  simp only at hp
  split at hp
  · rename_i y hy
    obtain ⟨o, ho, hr⟩ := hh id y b hy hb
    split at hp
    · rename_i vs hvs
      split at hp
      · rename_i ha
        split at hp
        · rename_i n hn
          split at hp
          · rename_i l hl
            cases hp
            obtain ⟨us, h1, h2⟩ := run_loadSeg (P := P) ho hr hvs hl
            exact ⟨.agg us.toArray, by simp [loadVar, run_agg w ha, run_size w hn, h1], us.toArray, rfl, by simpa using h2⟩
          · cases hp
        · cases hp
      · rename_i ha
        obtain ⟨u, h1, h2⟩ := run_load1 (P := P) ho hr hvs hp
        exact ⟨u, by simp only [loadVar, Sem.run_bind, run_agg w ha, Result.andThen_ok]; simpa using h1, h2⟩
      · cases hp
    · cases hp
  · cases hp

theorem pkLoad_ok {t : TypeId} {v : AVal} {x : AVal} {u : Value} (hh : HeapOk ρ R h w) (hv : VRel ρ R v u) (hp : pkLoad P h t v = some x) : VOk P ρ R w (loadAt t u) (.val x) := by
  cases v with
  | ptr id off =>
    obtain ⟨b, hb, rfl⟩ := hv
    obtain ⟨y, h1, h2⟩ := loadVar_ok hh hb hp
    exact ⟨y, by simp [loadAt, sureAddr, h1], h2⟩
  | _ => simp [pkLoad] at hp

/-! ### fieldAddr, field -/
def pkFieldAddr (P : Program) (s : TypeId) (v : AVal) (f : Nat) : Option AVal :=
  match P.underlying s with
  | some (.struct fields) =>
    match fields[f]? with
    | some fd => match szA P fd.type with
      | some (_ + 1) => match v with | .ptr id off => some (.ptr id (off + fd.offset)) | _ => none
      | _ => none
    | none => none
  | _ => none
theorem pkFieldAddr_ok {s : TypeId} {v : AVal} {x : AVal} {u : Value} {f : Nat} (hv : VRel ρ R v u) (hp : pkFieldAddr P s v f = some x) : VOk P ρ R w (fieldAt s u f) (.val x) := by
  unfold pkFieldAddr at hp
  split at hp
  · rename_i fields hd
    split at hp
    · rename_i fd hf
      split at hp
      · rename_i n hn
        split at hp
        · cases hp
          obtain ⟨b, hb, rfl⟩ := hv
          refine ⟨_, ?_, b, hb, rfl⟩
          simp [fieldAt, run_und w hd, hf, sureAddr, fieldPlace, run_size w hn, add_mk]
        · cases hp
      · cases hp
    · cases hp
  · cases hp

def pkField (P : Program) (t : TypeId) (v : AVal) (f : Nat) : Option AVal :=
  match P.underlying t with
  | some (.struct fields) =>
    match fields[f]? with
    | some fd => match v with | .agg cs => partA P fd.type cs fd.offset | _ => none
    | none => none
  | _ => none
theorem pkField_ok {t : TypeId} {v : AVal} {x : AVal} {u : Value} {f : Nat} (hv : VRel ρ R v u) (hp : pkField P t v f = some x) : VOk P ρ R w (field t u f) (.val x) := by
  unfold pkField at hp
  split at hp
  · rename_i fields hd
    split at hp
    · rename_i fd hf
      split at hp
      · rename_i cs
        obtain ⟨c, rfl, hc⟩ := hv
        obtain ⟨y, h1, h2⟩ := run_part (P := P) w hc hp
        exact ⟨y, by simp [Instr.field, run_und w hd, hf, asAgg, h1], h2⟩
      · cases hp
    · cases hp
  · cases hp

/-! ### indexAddr, index -/
def natI : AVal → Option Nat
  | .int _ (.lit (.ofNat i)) => some i
  | _ => none
theorem natI_some {v : AVal} {i : Nat} {u : Value} (hv : VRel ρ R v u) (hp : natI v = some i) : ∃ k, u = .int k (i : Int) := by
  unfold natI at hp
  split at hp
  · cases hp; exact ⟨_, by simpa [VRel, IE.den] using hv⟩
  · cases hp

def pkIndexAddr (P : Program) (t : TypeId) (x ix : AVal) : Option AVal :=
  match natI ix with
  | none => none
  | some i =>
    match P.underlying t with
    | some (.array len elem) =>
      match Nat.blt i len, szA P elem with
      | true, some n => match x with | .ptr id off => some (.ptr id (off + i * n)) | _ => none
      | _, _ => none
    | some (.slice elem) =>
      match x with
      | .slice id off len _ => match Nat.blt i len, szA P elem with
        | true, some n => some (.ptr id (off + i * n))
        | _, _ => none
      | _ => none
    | _ => none
theorem pkIndexAddr_ok {t : TypeId} {x ix y : AVal} {u v : Value} (hx : VRel ρ R x u) (hi : VRel ρ R ix v) (hp : pkIndexAddr P t x ix = some y) : VOk P ρ R w (indexAt t u v) (.val y) := by
  unfold pkIndexAddr at hp
  split at hp
  · cases hp
  rename_i i hn
  obtain ⟨k, rfl⟩ := natI_some hi hn
  split at hp
  · rename_i len elem hd
    split at hp
    · rename_i n hlt hsz
      split at hp
      · cases hp
        obtain ⟨b, hb, rfl⟩ := hx
        have := blt_true hlt
        refine ⟨_, ?_, b, hb, rfl⟩
        simp [indexAt, asIntOf, run_und w hd, sureAddr, run_size w hsz, add_mk, this]
      · cases hp
    · cases hp
  · rename_i elem hd
    split at hp
    · rename_i id off len cap
      split at hp
      · rename_i n hlt hsz
        cases hp
        obtain ⟨b, hb, rfl⟩ := hx
        have := blt_true hlt
        refine ⟨_, ?_, b, hb, rfl⟩
        simp [indexAt, asIntOf, run_und w hd, run_size w hsz, add_mk, this]
      · cases hp
    · cases hp
  · cases hp

/-- An index of a string: what must hold of it where it is not reckoned out. -/
def pkIndex (P : Program) (t : TypeId) (x ix : AVal) : Option (List BE × AVal) :=
  match P.underlying t, x with
  | some (.array len elem), .agg cs =>
    match natI ix with
    | none => none
    | some i => match Nat.blt i len, szA P elem with
      | true, some n => match partA P elem cs (i * n) with | some v => some ([], v) | none => none
      | _, _ => none
  | some .string, .str s =>
    match ix with
    | .int _ i =>
      match s, i with
      | .lit l, .lit (.ofNat n) => match Nat.blt n l.length with | true => some ([], .int .u8 (mkByte s i)) | false => none
      | s, i => some ([mkCmp .geq i (.lit 0), mkCmp .lss i (mkLen s)], .int .u8 (mkByte s i))
    | _ => none
  | _, _ => none

def Needs (ρ : Env) (l : List BE) : Prop := ∀ b ∈ l, b.den ρ = true

theorem string_index {s : SE} {n : Nat} (hn : n < (s.den ρ).length) : (s.dens ρ)[n]? = some ((s.den ρ)[n]) := by
  have hs : n < (s.dens ρ).size := by simpa [SE.dens, ByteArray.size] using hn
  rw [getElem?_pos (s.dens ρ) n hs]
  simp [SE.dens, ByteArray.getElem_eq_getElem_data]

theorem pkIndex_ok {t : TypeId} {x ix y : AVal} {u v : Value} {l : List BE} (hx : VRel ρ R x u) (hi : VRel ρ R ix v) (hp : pkIndex P t x ix = some (l, y)) (hl : Needs ρ l) : VOk P ρ R w (index t u v) (.val y) := by
  unfold pkIndex at hp
  split at hp
  · rename_i len elem cs hd
    split at hp
    · cases hp
    rename_i i hn
    obtain ⟨k, rfl⟩ := natI_some hi hn
    split at hp
    · rename_i n hlt hsz
      split at hp
      · rename_i z hz
        cases hp
        obtain ⟨c, rfl, hc⟩ := hx
        obtain ⟨z', h1, h2⟩ := run_part (P := P) w hc hz
        have := blt_true hlt
        exact ⟨z', by simp [index, asIntOf, run_und w hd, run_size w hsz, h1, this], h2⟩
      · cases hp
    · cases hp
  · rename_i s hd
    split at hp
    · rename_i k i
      have key : ∀ n : Nat, i.den ρ = n → n < (s.den ρ).length → VOk P ρ R w (index t (.string (s.dens ρ)) (.int k (i.den ρ))) (.val (.int .u8 (mkByte s i))) := by
        intro n hn hlt
        refine ⟨.int .u8 ((s.den ρ)[n]).toNat, ?_, ?_⟩
        · simp [index, asIntOf, run_und w hd, hn, string_index hlt]
        · simp [VRel, hn, List.getElem?_eq_getElem hlt]
      cases hx
      have hv : v = .int k (i.den ρ) := hi
      subst hv
      split at hp
      · rename_i l' n
        split at hp
        · rename_i hlt
          cases hp
          exact key n rfl (blt_true hlt)
        · cases hp
      · rename_i s' i'
        cases hp
        have g1 := hl _ (List.mem_cons_self ..)
        have g2 := hl _ (List.mem_cons_of_mem _ (List.mem_cons_self ..))
        simp [cmpFn, IE.den] at g1 g2
        exact key (i.den ρ).toNat (by omega) (by omega)
    · cases hp
  · cases hp

/-! ### slice -/
def bndA (v : Option AVal) (dflt upper : Nat) : Option Nat :=
  match v with
  | none => some dflt
  | some v => match natI v with | some i => (match Nat.ble i upper with | true => some i | false => none) | none => none

theorem bnd_ok {v : AVal} {u : Value} {i upper : Nat} (code : BoundsCode) (hv : VRel ρ R v u) (hn : natI v = some i) (hle : i ≤ upper) : (sliceBound u upper code).run P w = .ok i w := by
  obtain ⟨k, rfl⟩ := natI_some hv hn
  simp [sliceBound, asIntOf, hle]

/-- The three bounds of a slice expression over something of a known length and capacity. -/
def bndsA (len cap : Nat) (lo hi mx : Option AVal) : Option (Nat × Nat × Nat) :=
  match bndA mx cap cap with
  | none => none
  | some m =>
    match mx, hi with
    | some _, none => none
    | _, _ =>
      match bndA hi len m with
      | none => none
      | some h => match bndA lo 0 h with | none => none | some l => some (l, h, m)

def ORel (ρ : Env) (R : Rl) : Option AVal → Option Value → Prop
  | none, o => o = none
  | some x, o => ∃ v, o = some v ∧ VRel ρ R x v

theorem bnds_ok {isSlice : Bool} {len cap l hh m : Nat} {lo hi mx : Option AVal} {lo' hi' mx' : Option Value} (h1 : ORel ρ R lo lo') (h2 : ORel ρ R hi hi') (h3 : ORel ρ R mx mx')
    (hp : bndsA len cap lo hi mx = some (l, hh, m)) : (sliceBounds isSlice len cap lo' hi' mx').run P w = .ok (l, hh, m) w := by
  unfold bndsA at hp
  split at hp
  · cases hp
  rename_i m' hm
  split at hp
  · cases hp
  rename_i hno
  split at hp
  · cases hp
  rename_i h' hh'
  split at hp
  · cases hp
  rename_i l' hl'
  cases hp
  have bnd : ∀ {v : Option AVal} {u : Option Value} {d up i : Nat} (code : BoundsCode), ORel ρ R v u → bndA v d up = some i →
      (match u with | some x => sliceBound x up code | none => pure d : Sem Nat).run P w = .ok i w := by
    intro v u d up i code hr hb
    cases v with
    | none => simp only [ORel] at hr; subst hr; cases hb; rfl
    | some v =>
      obtain ⟨x, rfl, hx⟩ := hr
      unfold bndA at hb
      simp only at hb
      split at hb
      · rename_i j hj
        split at hb
        · rename_i hle
          cases hb
          exact bnd_ok code hx hj (Nat.le_of_ble_eq_true hle)
        · cases hb
      · cases hb
  have b1 := fun code => bnd code h3 hm
  have b3 := fun code => bnd code h1 hl'
  unfold sliceBounds
  cases mx with
  | none =>
    simp only [ORel] at h3; subst h3
    cases hm
    have b2 := fun code => bnd code h2 hh'
    cases hi' with
    | none =>
      simp at b2
      cases lo' with
      | none => simp at b3; simp [b2, b3]
      | some y => simp only [] at b3; simp [b2, b3]
    | some x =>
      simp only [] at b2
      cases lo' with
      | none => simp at b3; simp [b2, b3]
      | some y => simp only [] at b3; simp [b2, b3]
  | some mv =>
    obtain ⟨mu, rfl, hmu⟩ := h3
    cases hi with
    | none => exact absurd rfl (hno mv rfl)
    | some hv =>
      have h2' := h2
      obtain ⟨hu, rfl, hhu⟩ := h2'
      have b2 := fun code => bnd code h2 hh'
      simp only [] at b1 b2
      cases lo' with
      | none => simp at b3; simp [b1, b2, b3]
      | some y => simp only [] at b3; simp [b1, b2, b3]

/-- The bounds where all that is known of the capacity is that it is not below the length. -/
theorem bnds_own {len cap l hh m : Nat} {lo hi mx : Option AVal} {lo' hi' mx' : Option Value} (hc : len ≤ cap) (h1 : ORel ρ R lo lo') (h2 : ORel ρ R hi hi') (h3 : ORel ρ R mx mx') (hm : mx.isSome = true)
    (hp : bndsA len len lo hi mx = some (l, hh, m)) : (sliceBounds true len cap lo' hi' mx').run P w = .ok (l, hh, m) w ∧ m ≤ len := by
  cases mx with
  | none => cases hm
  | some mv =>
    have hb := bnds_ok (P := P) (w := w) (isSlice := true) h1 h2 h3 hp
    obtain ⟨mu, rfl, hmu⟩ := h3
    unfold bndsA at hp
    split at hp
    · cases hp
    rename_i m' hm'
    have hml : m' ≤ len ∧ natI mv = some m' := by
      unfold bndA at hm'
      simp only at hm'
      split at hm'
      · rename_i i hi
        split at hm'
        · rename_i hle
          cases hm'
          exact ⟨Nat.le_of_ble_eq_true hle, hi⟩
        · cases hm'
      · cases hm'
    have hmm : m' = m := by
      split at hp
      · cases hp
      split at hp
      · cases hp
      split at hp
      · cases hp
      cases hp; rfl
    subst hmm
    refine ⟨?_, hml.1⟩
    have e1 : ∀ code, (sliceBound mu len code).run P w = .ok m' w := fun code => bnd_ok code hmu hml.2 hml.1
    have e2 : ∀ code, (sliceBound mu cap code).run P w = .ok m' w := fun code => bnd_ok code hmu hml.2 (Nat.le_trans hml.1 hc)
    simp only [sliceBounds, Sem.run_bind, e1, e2, Result.andThen_ok] at hb ⊢
    exact hb

theorem bndA_up {v : Option AVal} {d up up' i : Nat} (h : bndA v d up = some i) (hle : up ≤ up') : bndA v d up' = some i := by
  cases v with
  | none => exact h
  | some v =>
    unfold bndA at h ⊢
    simp only at h ⊢
    cases hn : natI v with
    | none => simp [hn] at h
    | some j =>
      simp only [hn] at h ⊢
      split at h
      · rename_i hj
        have := Nat.le_of_ble_eq_true hj
        rw [Nat.ble_eq_true_of_le (by omega)]; exact h
      · cases h
theorem bndsA_none {len cap hh l : Nat} {lo hi : Option AVal} (h1 : bndA hi len cap = some hh) (h2 : bndA lo 0 hh = some l) : bndsA len cap lo hi none = some (l, hh, cap) := by
  have e : bndA none cap cap = some cap := rfl
  unfold bndsA
  rw [e]
  cases hi <;> simp only [h1, h2]

theorem bnds_own0 {len U cap l hh : Nat} {lo hi : Option AVal} {lo' hi' : Option Value} (hc : U ≤ cap) (hlu : len ≤ U) (h1 : ORel ρ R lo lo') (h2 : ORel ρ R hi hi')
    (hh' : bndA hi len U = some hh) (hl' : bndA lo 0 hh = some l) : (sliceBounds true len cap lo' hi' none).run P w = .ok (l, hh, cap) w ∧ hh ≤ U ∧ l ≤ hh := by
  have le : ∀ {v : Option AVal} {d up i : Nat}, d ≤ up → bndA v d up = some i → i ≤ up := by
    intro v d up i hd hb
    unfold bndA at hb
    split at hb
    · cases hb; exact hd
    · split at hb
      · split at hb
        · rename_i hle; cases hb; exact Nat.le_of_ble_eq_true hle
        · cases hb
      · cases hb
  have hle : hh ≤ U := le hlu hh'
  have hll : l ≤ hh := le (Nat.zero_le _) hl'
  have b1 : bndA hi len cap = some hh := bndA_up hh' hc
  exact ⟨bnds_ok (P := P) (w := w) (isSlice := true) (mx := none) h1 h2 rfl (bndsA_none b1 hl'), hle, hll⟩

/-- What a block's slices own: how many cells of it are known. -/
def knownA (h : Tr ABlk) (id esz : Nat) : Option Nat :=
  match h.get id with
  | some (.grow _ vs n) => match Nat.beq n esz with | true => some vs.length | false => none
  | _ => none
theorem knownA_ok {id esz kn b : Nat} (hh : HeapOk ρ R h w) (hb : R.blk id = some b) (hp : knownA h id esz = some kn) : kn ≤ R.cap id * esz := by
  unfold knownA at hp
  split at hp
  · rename_i t vs n hx
    split at hp
    · rename_i he
      cases hp
      obtain rfl := Nat.eq_of_beq_eq_true he
      obtain ⟨o, _, c, fr, pre, rest, rfl, h0, h1, h2, _⟩ := hh _ _ _ hx hb
      rw [← h2, ← h1.length, ← Array.length_toList, h0]
      simp
    · cases hp
  · cases hp

def cutA (id off esz : Nat) (l hh m : Nat) : AVal := .slice id (match Nat.beq m l with | true => off | false => off + l * esz) (hh - l) (.lit (m - l))

theorem cutA_ok {id off esz l hh m b : Nat} (hb : R.blk id = some b) :
    VRel ρ R (cutA id off esz l hh m) (.slice (some (if m = l then (⟨b, off, none⟩ : Addr) else (⟨b, off, none⟩ : Addr).add (l * esz))) (hh - l) (m - l)) := by
  refine ⟨b, hb, ?_⟩
  simp only [ACap.den, add_mk]
  by_cases e : m = l
  · subst e; simp
  · have : Nat.beq m l = false := Bool.eq_false_iff.2 fun x => e (Nat.eq_of_beq_eq_true x)
    simp [e, this]

def pkSlice (P : Program) (h : Tr ABlk) (t : TypeId) (x : AVal) (lo hi mx : Option AVal) : Option AVal :=
  match P.underlying t with
  | some (.array n elem) =>
    match x with
    | .ptr id off => match szA P elem, bndsA n n lo hi mx with
      | some esz, some (l, hh, m) => some (cutA id off esz l hh m)
      | _, _ => none
    | _ => none
  | some (.slice elem) =>
    match szA P elem with
    | none => none
    | some 0 => none
    | some (e + 1) =>
      match x with
      | .slice id off len (.lit c) => match bndsA len c lo hi mx with
        | some (l, hh, m) => some (cutA id off (e + 1) l hh m)
        | none => none
      | .slice id off len (.own sub) =>
        match knownA h id (e + 1) with
        | none => none
        | some kn => match Nat.ble ((sub + len) * (e + 1)) kn with
          | false => none
          | true =>
            match mx with
            | none =>
              match bndA hi len (kn / (e + 1) - sub) with
              | none => none
              | some hh => match bndA lo 0 hh with
                | none => none
                | some l =>
                  match Nat.blt ((sub + l) * (e + 1)) kn with
                  | true => some (.slice id (off + l * (e + 1)) (hh - l) (.own (sub + l)))
                  | false => (match Nat.beq l 0, Nat.beq (hh - l) 0 with | true, _ => some (.slice id off hh (.own sub)) | false, true => some .slice0 | _, _ => none)
            | some mv =>
              match bndsA len len lo hi (some mv) with
              | none => none
              | some (l, hh, m) => some (cutA id off (e + 1) l hh m)
      | .nilSlice => match bndsA 0 0 lo hi mx with
        | some (0, 0, 0) => some .nilSlice
        | _ => none
      | _ => none
  | some .string =>
    match x, mx with
    | .str s, none =>
      match s with
      | .lit l => match bndA hi l.length l.length with
        | some hh => match bndA lo 0 hh with
          | some lo => some (.str (.lit ((l.take hh).drop lo)))
          | none => none
        | none => none
      | _ => none
    | _, _ => none
  | _ => none

theorem extract_den (s : SE) (lo hi : Nat) : ((s.dens ρ).extract lo hi).data.toList = ((s.den ρ).take hi).drop lo := by
  simp [SE.dens, List.drop_take]

theorem pkSlice_ok {t : TypeId} {x y : AVal} {u : Value} {lo hi mx : Option AVal} {lo' hi' mx' : Option Value} (hh : HeapOk ρ R h w) (hx : VRel ρ R x u) (h1 : ORel ρ R lo lo') (h2 : ORel ρ R hi hi') (h3 : ORel ρ R mx mx')
    (hp : pkSlice P h t x lo hi mx = some y) : VOk P ρ R w (sliceAt t u lo' hi' mx') (.val y) := by
  unfold pkSlice at hp
  split at hp
  · rename_i n elem hd
    split at hp
    · rename_i id off
      split at hp
      · rename_i esz l hh' m hs hb
        cases hp
        obtain ⟨b, hbk, rfl⟩ := hx
        refine ⟨_, ?_, cutA_ok hbk⟩
        simp [sliceAt, run_und w hd, sureAddr, bnds_ok h1 h2 h3 hb, run_size w hs]
      · cases hp
    · cases hp
  · rename_i elem hd
    split at hp
    · cases hp
    · cases hp
    rename_i e hs
    split at hp
    · rename_i id off len c
      split at hp
      · rename_i l hh' m hb
        cases hp
        obtain ⟨b, hbk, rfl⟩ := hx
        refine ⟨_, ?_, cutA_ok hbk⟩
        simp only [ACap.den]
        simp [sliceAt, slice, run_und w hd, bnds_ok h1 h2 h3 hb, run_size w hs]
        split <;> simp
      · cases hp
    · rename_i id off len sub
      split at hp
      · cases hp
      rename_i kn hkn
      split at hp
      · cases hp
      rename_i hle
      obtain ⟨b, hbk, rfl⟩ := hx
      have hk := knownA_ok hh hbk hkn
      have hle := Nat.le_of_ble_eq_true hle
      have hcap : sub + len ≤ R.cap id := Nat.le_of_mul_le_mul_right (Nat.le_trans hle hk) (Nat.succ_pos e)
      split at hp
      · simp only [ORel] at h3; subst h3
        split at hp
        · cases hp
        rename_i hh' hhb
        split at hp
        · cases hp
        rename_i l hlb
        have hU : kn / (e + 1) ≤ R.cap id := Nat.div_le_of_le_mul (by rw [Nat.mul_comm]; exact hk)
        have hL : sub + len ≤ kn / (e + 1) := (Nat.le_div_iff_mul_le (Nat.succ_pos e)).2 hle
        obtain ⟨hb, hb1, hb2⟩ := bnds_own0 (P := P) (w := w) (cap := R.cap id - sub) (by omega) (by omega) h1 h2 hhb hlb
        split at hp
        · rename_i hlt
          cases hp
          have hlt := blt_true hlt
          have : sub + l < R.cap id := Nat.lt_of_mul_lt_mul_right (Nat.lt_of_lt_of_le hlt hk)
          refine ⟨.slice (some ⟨b, off + l * (e + 1), none⟩) (hh' - l) (R.cap id - sub - l), ?_, b, hbk, by simp [ACap.den]; omega⟩
          simp only [ACap.den]
          simp [sliceAt, slice, run_und w hd, hb, run_size w hs, add_mk]
          omega
        · split at hp
          · rename_i hl0
            cases hp
            obtain rfl := Nat.eq_of_beq_eq_true hl0
            refine ⟨.slice (some ⟨b, off, none⟩) hh' (R.cap id - sub), ?_, b, hbk, by simp [ACap.den]⟩
            simp only [ACap.den]
            simp [sliceAt, slice, run_und w hd, hb, run_size w hs, add_mk]
          · rename_i hl0
            cases hp
            have hl0 := Nat.eq_of_beq_eq_true hl0
            refine ⟨.slice (some (if R.cap id - sub = l then (⟨b, off, none⟩ : Addr) else (⟨b, off, none⟩ : Addr).add (l * (e + 1)))) 0 (R.cap id - sub - l), ?_, _, _, rfl⟩
            simp only [ACap.den]
            simp [sliceAt, slice, run_und w hd, hb, run_size w hs, hl0]
            split <;> simp
          · cases hp
      · rename_i mv
        split at hp
        · cases hp
        rename_i l hh' m hb
        cases hp
        obtain ⟨hb, hm⟩ := bnds_own (P := P) (w := w) (cap := R.cap id - sub) (by omega) h1 h2 h3 rfl hb
        refine ⟨_, ?_, cutA_ok hbk⟩
        simp only [ACap.den]
        simp [sliceAt, slice, run_und w hd, hb, run_size w hs]
        split <;> simp
    · split at hp
      · rename_i hb
        cases hp
        cases hx
        refine ⟨_, ?_, rfl⟩
        simp [sliceAt, slice, run_und w hd, bnds_ok h1 h2 h3 hb, run_size w hs]
      · cases hp
    · cases hp
  · rename_i hd
    split at hp
    · split at hp
      · rename_i l
        split at hp
        · rename_i hh' hhb
          split at hp
          · rename_i lo2 hlb
            cases hp
            cases hx
            simp only [ORel] at h3; subst h3
            have hb := bnds_ok (P := P) (w := w) (isSlice := false) (len := l.length) (cap := l.length) h1 h2 (mx := none) rfl (bndsA_none hhb hlb)
            refine ⟨.string (((SE.lit l).dens ρ).extract lo2 hh'), ?_, ?_⟩
            · have hsz : ((SE.lit l).dens ρ).size = l.length := by simp [SE.dens, SE.den, ByteArray.size]
              simp [sliceAt, slice, run_und w hd, hsz, hb]
            · simp only [VRel, Value.string.injEq]
              apply ByteArray.ext
              apply Array.ext'
              rw [extract_den]
              simp [SE.dens, SE.den]
          · cases hp
        · cases hp
      · cases hp
    · cases hp
  · cases hp
end
end Go.Sx
