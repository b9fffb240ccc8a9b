/-
  The abstract executor, part K: the operations that turn memory.
  No condition: definitions and lemmas.
-/
import Derived.Test.YtioclaoooghllaaGreatDoorSxJ
namespace Go.Sx
open Go.Instr

/-! ### What they do -/
def effStore (P : Program) (m : AM) (t : TypeId) (a x : AVal) : Option AM :=
  match a with
  | .ptr id off =>
    match m.h.get id, szA P t with
    | some b, some n => match Nat.beq x.cells.length n with
      | true => match b.put off x.cells with | some b' => some (m.upd id b') | none => none
      | false => none
    | _, _ => none
  | _ => none

def effMapUpdate (P : Program) (m : AM) (t : TypeId) (mp k x : AVal) : Option AM :=
  match P.underlying t with
  | some (.map kt _) =>
    match keyD P kt k, mp with
    | some _, .map id => match m.h.get id with
      | some (.map es) => match findA k es 0 with
        | some (some (i, _)) => some (m.upd id (.map (es.set i (k, x))))
        | some none => some (m.upd id (.map (es ++ [(k, x)])))
        | none => none
      | _ => none
    | _, _ => none
  | _ => none

def effDelete (P : Program) (m : AM) (t : TypeId) (mp k : AVal) : Option AM :=
  match P.underlying t with
  | some (.map kt _) =>
    match keyD P kt k, mp with
    | some _, .nilMap => some m
    | some _, .map id => match m.h.get id with
      | some (.map es) => match findA k es 0 with
        | some (some (i, _)) => some (m.upd id (.map (es.eraseIdx i)))
        | some none => some (m.upd id (.map es))
        | none => none
      | _ => none
    | _, _ => none
  | _ => none

/-- The first n elements of a slice or a string. -/
def firstA (h : Tr ABlk) (esz n : Nat) (x : AVal) : Option (List AVal) :=
  match x with
  | .nilSlice => match Nat.beq n 0 with | true => some [] | false => none
  | .slice0 => match Nat.beq n 0 with | true => some [] | false => none
  | .slice id off _ _ => match h.get id with
    | some b => match b.vals with | some vs => segL vs off (n * esz) | none => none
    | none => none
  | .str (.lit l) => some (bytesLit (l.take n))
  | _ => none
def lenA : AVal → Option Nat
  | .nilSlice => some 0
  | .slice0 => some 0
  | .slice _ _ n _ => some n
  | .str (.lit l) => forceN l.length some
  | _ => none

def effCopy (P : Program) (m : AM) (t : TypeId) (d s : AVal) : Option (AVal × AM) :=
  match P.underlying t with
  | some (.slice elem) =>
    match szA P elem, lenA d, lenA s with
    | some esz, some dn, some sn =>
      forceN (Nat.min sn dn) fun n =>
      match firstA m.h esz n s with
      | none => none
      | some xs =>
        match d with
        | .slice id off _ _ => match m.h.get id with
          | some b => match b.put off xs with | some b' => some (.int .i64 (.lit (.ofNat n)), m.upd id b') | none => none
          | none => none
        | .nilSlice => match xs with | [] => some (.int .i64 (.lit (.ofNat n)), m) | _ => none
        | .slice0 => match xs with | [] => some (.int .i64 (.lit (.ofNat n)), m) | _ => none
        | _ => none
    | _, _, _ => none
  | _ => none

def effClear (P : Program) (m : AM) (t : TypeId) (x : AVal) : Option AM :=
  match P.underlying t with
  | none => none
  | some d =>
    match x with
    | .nilMap => some m
    | .nilSlice => some m
    | .slice0 => some m
    | .slice _ _ 0 _ => some m
    | .map id => match m.h.get id with | some (.map _) => some (m.upd id (.map [])) | _ => none
    | .slice id off n _ => match d with
      | .slice elem => match zeroA P elem, m.h.get id with
        | some z, some b => match z.cells with
          | [] => none
          | z0 :: zs => match b.put off (repA (z0 :: zs) n) with | some b' => some (m.upd id b') | none => none
        | _, _ => none
      | _ => none
    | _ => none

/-- Where the append has no room: a new row. -/
def appNew (m : AM) (elem : TypeId) (esz need : Nat) (old xs : List AVal) : AVal × AM :=
  (.slice m.nx 0 need (.own 0), m.push (.grow elem (old ++ xs) esz))

def effAppend (P : Program) (m : AM) (ts : List TypeId) (s x : AVal) : Option (AVal × AM) :=
  match ts with
  | [sT, xT] =>
    match P.underlying sT, P.underlying xT with
    | some (.slice elem), some xd =>
      match xd with
      | .int _ => none
      | _ =>
      match P.info? elem, zeroA P elem, lenA s, lenA x with
      | some i, some z, some sl, some n =>
        match Nat.beq z.cells.length i.size, Nat.ble i.bytes 100000, Nat.blt 0 i.bytes with
        | true, true, true =>
          match firstA m.h i.size n x with
          | none => none
          | some xs =>
            match Nat.ble (sl + n) 1000000, Nat.beq xs.length (n * i.size) with
            | true, true =>
              forceN (sl + n) fun need =>
              match s with
              | .nilSlice => match Nat.beq n 0 with | true => some (.nilSlice, m) | false => some (appNew m elem i.size need [] xs)
              | .slice id off _ (.lit c) =>
                match Nat.ble need c with
                | true => match m.h.get id with
                  | some b => match b.put (off + sl * i.size) xs with | some b' => some (.slice id off need (.lit c), m.upd id b') | none => none
                  | none => none
                | false => match firstA m.h i.size sl s with | some old => some (appNew m elem i.size need old xs) | none => none
              | .slice id off _ (.own sub) =>
                match m.h.get id with
                | some (.grow e vs esz) =>
                  match Nat.beq esz i.size, Nat.beq e elem, Nat.beq esz 0, Nat.beq off (sub * esz) with
                  | true, true, false, true =>
                    match Nat.ble ((sub + need) * esz) vs.length with
                    | true => match (ABlk.grow e vs esz).put (off + sl * esz) xs with | some b' => some (.slice id off need (.own sub), m.upd id b') | none => none
                    | false =>
                      match Nat.beq (sl * esz) vs.length, Nat.beq sub 0 with
                      | true, true => match onesL xs with
                        | true => some (.slice m.nx 0 need (.own 0), (m.drop id).push (.grow e (vs ++ xs) esz))
                        | false => none
                      | _, _ => none
                  | _, _, _, _ => none
                | _ => none
              | _ => none
            | _, _ => none
        | _, _, _ => none
      | _, _, _, _ => none
    | _, _ => none
  | _ => none

def effNext (m : AM) (it : AVal) (isString : Bool) : Option (AVal × AM) :=
  match it, isString with
  | .ptr id 0, true => match m.h.get id with
    | some (.strIter (.lit l) pos) =>
      match Nat.blt pos l.length with
      | true => match Utf8.decode ⟨l.toArray⟩ pos with
        | (c, width) => forceN (pos + width) fun np => forceN c fun c => some (.tuple [.bool (.lit true), .int .i64 (.lit (.ofNat pos)), .int .i32 (.lit (.ofNat c))], m.upd id (.strIter (.lit l) np))
      | false => some (.tuple [.bool (.lit false)], m)
    | _ => none
  | _, _ => none

/-- Is a number a byte's for sure? -/
def u8Ok : IE → Bool
  | .lit (.ofNat n) => Nat.blt n 256
  | .conv .u8 _ => true
  | .byte _ _ => true
  | .arith .add .u8 _ _ => true
  | .arith .sub .u8 _ _ => true
  | .arith .and .u8 _ _ => true
  | .arith .or .u8 _ _ => true
  | .arith .xor .u8 _ _ => true
  | _ => false
def u8sOk : List AVal → Bool
  | [] => true
  | .int .u8 n :: l => match u8Ok n with | true => u8sOk l | false => false
  | _ => false

/-- unsafe.String: the bytes; the block is given up. -/
def effString (P : Program) (m : AM) (ts : List TypeId) (p n : AVal) : Option (AVal × AM) :=
  match ts, n with
  | [pt, _], .int .i64 (.lit (.ofNat 0)) => match p with
    | .nilPtr => some (.str (.lit []), m)
    | .ptr _ _ => some (.str (.lit []), m)
    | _ => (match P.underlying pt with | _ => none)
  | [pt, _], .int .i64 (.lit (.ofNat (n + 1))) =>
    match p, P.underlying pt with
    | .ptr id 0, some (.pointer u) =>
      match m.h.get id with
      | some (.grow e vs _) =>
        match Nat.beq e u, Nat.beq (P.cellsOf e) 1, segL vs 0 (n + 1), Nat.ble n 1000000 with
        | true, true, some l, true => match u8sOk l, bytesA l with | true, some s => some (.str s, m.drop id) | _, _ => none
        | _, _, _, _ => none
      | _ => none
    | _, _ => none
  | _, _ => none

/-- The operations that turn memory, calls apart. -/
def eff (P : Program) (m : AM) (ev : Operand → Option AVal) (op : Op) : Option (AVal × AM) :=
  let u (o : Option AM) : Option (AVal × AM) := match o with | some m => some (AVal.undef, m) | none => none
  match op with
  | .store t a x => match ev a, ev x with | some a, some x => u (effStore P m t a x) | _, _ => none
  | .mapUpdate t mp k x => match ev mp, ev k, ev x with | some mp, some k, some x => u (effMapUpdate P m t mp k x) | _, _, _ => none
  | .insert t mp k x => match ev mp, ev k, ev x with | some mp, some k, some x => u (effMapUpdate P m t mp k x) | _, _, _ => none
  | .next it s => match ev it with | some it => effNext m it s | none => none
  | .call ⟨.builtin .append, args, ts⟩ => match args.toList with
    | [s, x] => match ev s, ev x with | some s, some x => effAppend P m ts.toList s x | _, _ => none
    | _ => none
  | .call ⟨.builtin .copy, args, ts⟩ => match args.toList, ts.toList with
    | [d, s], t :: _ => match ev d, ev s with | some d, some s => effCopy P m t d s | _, _ => none
    | _, _ => none
  | .call ⟨.builtin .clear, args, ts⟩ => match args.toList, ts.toList with
    | [x], t :: _ => match ev x with | some x => u (effClear P m t x) | none => none
    | _, _ => none
  | .call ⟨.builtin .delete, args, ts⟩ => match args.toList, ts.toList with
    | [mp, k], t :: _ => match ev mp, ev k with | some mp, some k => u (effDelete P m t mp k) | _, _ => none
    | _, _ => none
  | .call ⟨.builtin .unsafeString, args, ts⟩ => match args.toList with
    | [p, n] => match ev p, ev n with | some p, some n => effString P m ts.toList p n | _, _ => none
    | _ => none
  | _ => none

/-! ### That they do it -/
section
variable {P : Program} {ρ : Env} {R : Rl} {w : World}

def UOk (P : Program) (ρ : Env) (R : Rl) (m : AM) (w : World) (s : Sem Unit) (m' : AM) : Prop :=
  ∃ R' w', s.run P w = .ok () w' ∧ MemInv ρ R' m' w' ∧ MStep R m w R' m' w'
def EOk (P : Program) (ρ : Env) (R : Rl) (m : AM) (w : World) (s : Sem Value) (v : AVal) (m' : AM) : Prop :=
  ∃ R' u w', s.run P w = .ok u w' ∧ VRel ρ R' v u ∧ MemInv ρ R' m' w' ∧ MStep R m w R' m' w'

theorem effStore_ok {m m' : AM} {t : TypeId} {a x : AVal} {u v : Value} (hi : MemInv ρ R m w) (ha : VRel ρ R a u) (hx : VRel ρ R x v) (hp : effStore P m t a x = some m') : UOk P ρ R m w (storeAt t u v) m' := by
  unfold effStore at hp
  split at hp
  · rename_i id off
    obtain ⟨b, hb, rfl⟩ := ha
    split at hp
    · rename_i y n hy hn
      split at hp
      · rename_i hl
        split at hp
        · rename_i y' hput
          cases hp
          obtain ⟨o, ho, hr⟩ := hi.ok id y b hy hb
          obtain ⟨o', h1, h2⟩ := run_put (P := P) ho hr hput hx.cells
          have hsz : v.cells.size = n := by
            have := hx.cells.length
            simp only [Array.length_toList] at this
            rw [this]; exact Nat.eq_of_beq_eq_true hl
          refine ⟨R, w.putObj b o', ?_, hi.upd hy hb h2, MStep.upd _ hy (ABlk.put_wr hput) hb _⟩
          simp [storeAt, sureAddr, storeVar, run_size w hn, hsz, h1]
        · cases hp
      · cases hp
    · cases hp
  · cases hp

theorem sameBits_key {d : TypeDesc} {k : AVal} {u : Value} (hf : keyFits d k = true) (hk : VRel ρ R k u) : sameBits 10000 u u = true := by
  cases k <;> simp [keyFits] at hf
  · obtain rfl := VRel_int hk; simp [sameBits]
  · obtain rfl := VRel_str hk
    simp only [sameBits]
    rw [beq_toListBytes]; simp

theorem ERel.set : ∀ {xs : List (AVal × AVal)} {es : List MapEntry} (i : Nat) {x : AVal × AVal} {e : MapEntry}, ERel ρ R xs es → VRel ρ R x.1 e.key → VRel ρ R x.2 e.val → ERel ρ R (xs.set i x) (es.set i e)
  | [], _, _, _, _, h, _, _ => by simp only [ERel] at h; subst h; simp [ERel]
  | _ :: _, _, 0, _, _, ⟨e0, es', rfl, _, _, h3⟩, hk, hv => ⟨_, es', rfl, hk, hv, h3⟩
  | _ :: _, _, i + 1, _, _, ⟨e0, es', rfl, h1, h2, h3⟩, hk, hv => ⟨e0, es'.set i _, rfl, h1, h2, h3.set i hk hv⟩
theorem ERel.snoc : ∀ {xs : List (AVal × AVal)} {es : List MapEntry} {x : AVal × AVal} {e : MapEntry}, ERel ρ R xs es → VRel ρ R x.1 e.key → VRel ρ R x.2 e.val → ERel ρ R (xs ++ [x]) (es ++ [e])
  | [], _, _, e, h, hk, hv => by simp only [ERel] at h; subst h; exact ⟨e, [], rfl, hk, hv, rfl⟩
  | _ :: _, _, _, _, ⟨e0, es', rfl, h1, h2, h3⟩, hk, hv => ⟨e0, es' ++ [_], rfl, h1, h2, h3.snoc hk hv⟩
theorem ERel.erase : ∀ {xs : List (AVal × AVal)} {es : List MapEntry} (i : Nat), ERel ρ R xs es → ERel ρ R (xs.eraseIdx i) (es.eraseIdx i)
  | [], _, _, h => by simp only [ERel] at h; subst h; simp [ERel]
  | _ :: _, _, 0, ⟨e0, es', rfl, _, _, h3⟩ => h3
  | _ :: _, _, i + 1, ⟨e0, es', rfl, h1, h2, h3⟩ => ⟨e0, es'.eraseIdx i, rfl, h1, h2, h3.erase i⟩

theorem run_setMap {b : Nat} {a : Array MapEntry} {clk : Nat} (o : Obj) (h : w.heap[b]? = some (.map a clk)) : (setObj b o).run P w = .ok () (w.putObj b o) := by
  simp [setObj, Sem.run, h, World.putObj]
theorem run_getMap {b : Nat} {a : Array MapEntry} {clk : Nat} (h : w.heap[b]? = some (.map a clk)) : (getObj b).run P w = .ok (.map a clk) w := by
  simp [getObj, Sem.run, h]

theorem effMapUpdate_ok {m m' : AM} {t : TypeId} {mp k x : AVal} {u kv v : Value} (hi : MemInv ρ R m w) (hm : VRel ρ R mp u) (hk : VRel ρ R k kv) (hx : VRel ρ R x v) (hp : effMapUpdate P m t mp k x = some m') :
    UOk P ρ R m w (mapUpdate t u kv v) m' := by
  unfold effMapUpdate at hp
  split at hp
  · rename_i kt et hd
    split at hp
    · rename_i d id hkd
      obtain ⟨b, hb, rfl⟩ := hm
      obtain ⟨hf, hu, hck⟩ := keyD_ok (w := w) hk hkd
      split at hp
      · rename_i es hes
        obtain ⟨o, ho, a, clk, rfl, her, hst⟩ := hi.ok id _ b hes hb
        have hfk : ∀ q, findNow d kv a.toList 0 = some q → (findKey kt kv a.toList).run P w = .ok q w := by
          intro q hq
          simp [findKey, run_und w hu, hq]
        split at hp
        · rename_i i y hfa
          cases hp
          obtain ⟨r', g1, g2⟩ := findA_ok hf hk her hfa
          simp only at g2
          obtain ⟨_, v', e, rfl, q2, q3, q4, q5⟩ := g2
          have hlt : i < a.size := by
            have := (List.getElem?_eq_some_iff.1 q3).1
            simpa using this
          have hai : a[i]? = some e := by simpa using q3
          have hmod : (a.modify i fun e => { e with key := kv, val := v }).toList = a.toList.set i { e with key := kv, val := v } := by
            apply List.ext_getElem?
            intro j
            rw [Array.getElem?_toList, Array.getElem?_modify, List.getElem?_set]
            by_cases hj : i = j
            · subst hj
              have hge : a[i] = e := by rw [Array.getElem?_eq_getElem hlt] at hai; exact Option.some.inj hai
              simp [hge, hlt]
            · simp [hj]
          refine ⟨R, w.putObj b (.map (a.modify i fun e => { e with key := kv, val := v }) clk), ?_, hi.upd hes hb ⟨_, clk, rfl, ?_, ?_⟩, MStep.upd _ hes rfl hb _⟩
          · simp only [mapUpdate, Sem.run_bind, run_und w hd, Result.andThen_ok, run_getMap ho, hck, hfk _ g1, hai, Option.map_some, Option.getD_some]
            simp only [keyThatStays, q4, sameBits_key hf hk, if_true, Sem.run_pure, Result.andThen_ok, run_setMap _ ho]
          · rw [hmod]; exact her.set i hk hx
          · exact MapKept.stamped_modify hst i _ (fun _ _ => rfl) (fun e' _ he' => by rw [hai] at he'; cases he'; exact q4.symm)
        · rename_i hfa
          cases hp
          obtain ⟨r', g1, g2⟩ := findA_ok hf hk her hfa
          simp only at g2
          obtain ⟨rfl, hne⟩ := g2
          refine ⟨R, w.putObj b (.map (a.push { key := kv, val := v, born := clk }) (clk + 1)), ?_, hi.upd hes hb ⟨_, _, rfl, ?_, MapKept.stamped_push hst hne⟩, MStep.upd _ hes rfl hb _⟩
          · simp only [mapUpdate, Sem.run_bind, run_und w hd, Result.andThen_ok, run_getMap ho, hck, hfk _ g1, run_setMap _ ho]
          · rw [Array.toList_push]; exact her.snoc hk hx
        · cases hp
      · cases hp
    · cases hp
  · cases hp

theorem effDelete_ok {m m' : AM} {t : TypeId} {mp k : AVal} {u kv : Value} {ts : Array TypeId} {ty : TypeId} (hi : MemInv ρ R m w) (ht : ts[0]? = some t) (hm : VRel ρ R mp u) (hk : VRel ρ R k kv) (hp : effDelete P m t mp k = some m') :
    ∃ R' w', (Builtin.delete_ ts ty #[u, kv]).run P w = .ok (.tuple #[]) w' ∧ MemInv ρ R' m' w' ∧ MStep R m w R' m' w' := by
  unfold effDelete at hp
  split at hp
  · rename_i kt et hd
    split at hp
    · rename_i d hkd
      cases hp
      cases hm
      obtain ⟨hf, hu, hck⟩ := keyD_ok (w := w) hk hkd
      exact ⟨R, w, by simp [Builtin.delete_, ht, run_und w hd, hck], hi, MStep.refl _ _ _⟩
    · rename_i d id hkd
      obtain ⟨b, hb, rfl⟩ := hm
      obtain ⟨hf, hu, hck⟩ := keyD_ok (w := w) hk hkd
      split at hp
      · rename_i es hes
        obtain ⟨o, ho, a, clk, rfl, her, hst⟩ := hi.ok id _ b hes hb
        have hfk : ∀ q, findNow d kv a.toList 0 = some q → (findKey kt kv a.toList).run P w = .ok q w := by
          intro q hq
          simp [findKey, run_und w hu, hq]
        split at hp
        · rename_i i y hfa
          cases hp
          obtain ⟨r', g1, g2⟩ := findA_ok hf hk her hfa
          simp only at g2
          obtain ⟨_, v', e, rfl, q2, q3, q4, q5⟩ := g2
          refine ⟨R, w.putObj b (.map (a.eraseIdxIfInBounds i) clk), ?_, hi.upd hes hb ⟨_, clk, rfl, ?_, MapKept.stamped_erase hst i⟩, MStep.upd _ hes rfl hb _⟩
          · simp [Builtin.delete_, ht, run_und w hd, run_getMap ho, hck, hfk _ g1, run_setMap _ ho]
          · have hlt : i < a.size := by
              have := (List.getElem?_eq_some_iff.1 q3).1
              simpa using this
            simp only [Array.eraseIdxIfInBounds, hlt, dif_pos, Array.toList_eraseIdx]
            exact her.erase i
        · rename_i hfa
          cases hp
          obtain ⟨r', g1, g2⟩ := findA_ok hf hk her hfa
          simp only at g2
          obtain ⟨rfl, _⟩ := g2
          refine ⟨R, w.putObj b (.map a clk), ?_, hi.upd hes hb ⟨_, clk, rfl, her, hst⟩, MStep.upd _ hes rfl hb _⟩
          simp [Builtin.delete_, ht, run_und w hd, run_getMap ho, hck, hfk _ g1, run_setMap _ ho]
        · cases hp
      · cases hp
    · cases hp
  · cases hp

theorem run_lenOf {x : AVal} {u : Value} {n : Nat} (hx : VRel ρ R x u) (hp : lenA x = some n) : (Builtin.lenOf u).run P w = .ok n w := by
  unfold lenA at hp
  split at hp
  · cases hp; cases hx; rfl
  · cases hp; obtain ⟨a, c, rfl⟩ := hx; rfl
  · cases hp; obtain ⟨b, hb, rfl⟩ := hx; rfl
  · rw [forceN_eq] at hp; cases hp; obtain rfl := VRel_str hx
    simp [Builtin.lenOf, SE.dens, SE.den, ByteArray.size]
  · cases hp

theorem run_first {h : Tr ABlk} {esz n : Nat} {x : AVal} {u : Value} {xs : List AVal} (hh : HeapOk ρ R h w) (hx : VRel ρ R x u) (hp : firstA h esz n x = some xs) :
    ∃ us : List Value, (Builtin.firstCells esz n u).run P w = .ok us.toArray w ∧ VRels ρ R xs us := by
  unfold firstA at hp
  split at hp
  · split at hp
    · cases hp; cases hx; exact ⟨[], rfl, rfl⟩
    · cases hp
  · split at hp
    · rename_i hn
      cases hp; obtain ⟨a, c, rfl⟩ := hx
      obtain rfl := Nat.eq_of_beq_eq_true hn
      exact ⟨[], by simp [Builtin.firstCells, loadCells, loadCellsFrom], rfl⟩
    · cases hp
  · rename_i id off len cap
    obtain ⟨b, hb, rfl⟩ := hx
    split at hp
    · rename_i y hy
      split at hp
      · rename_i vs hvs
        obtain ⟨o, ho, hr⟩ := hh id y b hy hb
        obtain ⟨us, h1, h2⟩ := run_loadSeg (P := P) ho hr hvs hp
        exact ⟨us, by simpa [Builtin.firstCells] using h1, h2⟩
      · cases hp
    · cases hp
  · rename_i l
    cases hp
    obtain rfl := VRel_str hx
    refine ⟨(l.take n).map fun b => .int .u8 b.toNat, ?_, bytesLit_ok _⟩
    simp only [Builtin.firstCells, Sem.run_pure]
    congr 1
    apply Array.ext'
    simp [SE.dens, SE.den]
  · cases hp

theorem effCopy_ok {m m' : AM} {t : TypeId} {d s r : AVal} {u v : Value} {ts : Array TypeId} {ty : TypeId} (hi : MemInv ρ R m w) (ht : ts[0]? = some t) (hd : VRel ρ R d u) (hs : VRel ρ R s v) (hp : effCopy P m t d s = some (r, m')) :
    EOk P ρ R m w (Builtin.copy_ ts ty #[u, v]) r m' := by
  unfold effCopy at hp
  split at hp
  · rename_i elem hu
    split at hp
    · rename_i esz dn sn hsz hdn hsn
      rw [forceN_eq] at hp
      split at hp
      · cases hp
      rename_i xs hxs
      obtain ⟨us, h1, h2⟩ := run_first (P := P) hi.ok hs hxs
      have hls := run_lenOf (P := P) (w := w) hs hsn
      split at hp
      · rename_i id off len cap
        obtain ⟨b, hb, rfl⟩ := hd
        have hdn' : len = dn := by simpa [lenA] using hdn
        subst hdn'
        split at hp
        · rename_i y hy
          split at hp
          · rename_i y' hput
            cases hp
            obtain ⟨o, ho, hr⟩ := hi.ok id y b hy hb
            obtain ⟨o', g1, g2⟩ := run_put (P := P) ho hr hput h2
            refine ⟨R, goInt (Nat.min sn len), w.putObj b o', ?_, rfl, hi.upd hy hb g2, MStep.upd _ hy (ABlk.put_wr hput) hb _⟩
            simp [Builtin.copy_, ht, run_und w hu, hls, run_size w hsz, h1, g1]
          · cases hp
        · cases hp
      · split at hp
        · cases hp
          have hus : us = [] := by simpa [VRels] using h2
          subst hus
          cases hd
          obtain rfl : dn = 0 := by simpa [lenA] using hdn.symm
          simp at h1
          exact ⟨R, goInt (Nat.min sn 0), w, by simp [Builtin.copy_, ht, run_und w hu, hls, run_size w hsz, h1], rfl, hi, MStep.refl _ _ _⟩
        · cases hp
      · split at hp
        · cases hp
          have hus : us = [] := by simpa [VRels] using h2
          subst hus
          obtain ⟨a, c, rfl⟩ := hd
          obtain rfl : dn = 0 := by simpa [lenA] using hdn.symm
          have hstore : ∀ a : Addr, (storeCells a []).run P w = .ok () w := fun a => rfl
          simp at h1
          exact ⟨R, goInt (Nat.min sn 0), w, by simp [Builtin.copy_, ht, run_und w hu, hls, run_size w hsz, h1, hstore], rfl, hi, MStep.refl _ _ _⟩
        · cases hp
      · cases hp
    · cases hp
  · cases hp

theorem zeroCells_ok {z : List AVal} {c : Array Value} (h : VRels ρ R z c.toList) (hz : z ≠ []) (n : Nat) : VRels ρ R (repA z n) (Builtin.zeroCells c n).toList := by
  have hl := h.length
  simp only [Array.length_toList] at hl
  have := rep_rel h hz n
  have e : Builtin.zeroCells c n = (Array.range (n * z.length)).map (c[· % c.size]!) := by unfold Builtin.zeroCells; rw [← hl]
  rw [e]; exact this

theorem effClear_ok {m m' : AM} {t : TypeId} {x : AVal} {u : Value} {ts : Array TypeId} {ty : TypeId} (hi : MemInv ρ R m w) (ht : ts[0]? = some t) (hx : VRel ρ R x u) (hp : effClear P m t x = some m') :
    ∃ R' w', (Builtin.clear_ ts ty #[u]).run P w = .ok (.tuple #[]) w' ∧ MemInv ρ R' m' w' ∧ MStep R m w R' m' w' := by
  unfold effClear at hp
  split at hp
  · cases hp
  rename_i d hd
  have stay : ∀ v : Value, (v = .map none ∨ (∃ a b, v = .slice none a b) ∨ ∃ a c, v = .slice a 0 c) → (Builtin.clear_ ts ty #[v]).run P w = .ok (.tuple #[]) w := by
    intro v hv
    rcases hv with rfl | ⟨a, b, rfl⟩ | ⟨a, c, rfl⟩
    · simp [Builtin.clear_, ht, run_und w hd]
    · simp [Builtin.clear_, ht, run_und w hd]
    · cases a <;> simp [Builtin.clear_, ht, run_und w hd]
  split at hp
  · cases hp; cases hx; exact ⟨R, w, stay _ (.inl rfl), hi, MStep.refl _ _ _⟩
  · cases hp; cases hx; exact ⟨R, w, stay _ (.inr (.inl ⟨0, 0, rfl⟩)), hi, MStep.refl _ _ _⟩
  · cases hp; obtain ⟨a, c, rfl⟩ := hx; exact ⟨R, w, stay _ (.inr (.inr ⟨_, _, rfl⟩)), hi, MStep.refl _ _ _⟩
  · cases hp; obtain ⟨b, hb, rfl⟩ := hx; exact ⟨R, w, stay _ (.inr (.inr ⟨_, _, rfl⟩)), hi, MStep.refl _ _ _⟩
  · rename_i id
    obtain ⟨b, hb, rfl⟩ := hx
    split at hp
    · rename_i es hes
      cases hp
      obtain ⟨o, ho, a, clk, rfl, her, hst⟩ := hi.ok id _ b hes hb
      refine ⟨R, w.putObj b (.map #[] clk), ?_, hi.upd hes hb ⟨#[], clk, rfl, rfl, MapKept.stamped_empty clk⟩, MStep.upd _ hes rfl hb _⟩
      simp [Builtin.clear_, ht, run_und w hd, run_getMap ho, run_setMap _ ho]
    · cases hp
  · rename_i id off n cap hn
    obtain ⟨b, hb, rfl⟩ := hx
    split at hp
    · rename_i elem
      split at hp
      · rename_i z y hz hy
        split at hp
        · cases hp
        rename_i z0 zs hzc
        split at hp
        · rename_i y' hput
          cases hp
          obtain ⟨z', z1, z2⟩ := run_zero w ρ R hz
          obtain ⟨o, ho, hr⟩ := hi.ok id y b hy hb
          have hzr := zeroCells_ok z2.cells (by rw [hzc]; simp) n
          rw [hzc] at hzr
          obtain ⟨o', g1, g2⟩ := run_put (P := P) ho hr hput hzr
          refine ⟨R, w.putObj b o', ?_, hi.upd hy hb g2, MStep.upd _ hy (ABlk.put_wr hput) hb _⟩
          cases n with
          | zero => exact (hn rfl).elim
          | succ n => simp [Builtin.clear_, ht, run_und w hd, z1, g1]
        · cases hp
      · cases hp
    · cases hp
  · cases hp

theorem effNext_ok {m m' : AM} {it r : AVal} {u : Value} {s : Bool} {ty : TypeId} (hi : MemInv ρ R m w) (hx : VRel ρ R it u) (hp : effNext m it s = some (r, m')) : EOk P ρ R m w (Instr.next u s ty) r m' := by
  unfold effNext at hp
  split at hp
  · rename_i id
    obtain ⟨b, hb, rfl⟩ := hx
    split at hp
    · rename_i l pos hy
      obtain ⟨o, ho, rfl⟩ := hi.ok id _ b hy hb
      have hgo : (getObj b).run P w = .ok (.stringIter ((SE.lit l).dens ρ) pos) w := by simp [getObj, Sem.run, ho]
      have hso : ∀ o, (setObj b o).run P w = .ok () (w.putObj b o) := fun o => by simp [setObj, Sem.run, ho, World.putObj]
      have hsz : ((SE.lit l).dens ρ).size = l.length := by simp [SE.dens, SE.den, ByteArray.size]
      split at hp
      · rename_i hlt
        have hlt := blt_true hlt
        split at hp
        rename_i c width hdec
        simp only [forceN_eq] at hp
        cases hp
        have hdec' : Utf8.decode ((SE.lit l).dens ρ) pos = (c, width) := hdec
        refine ⟨R, _, w.putObj b (.stringIter ((SE.lit l).dens ρ) (pos + width)), ?_, ⟨#[.bool true, goInt pos, .int .i32 c], rfl, VRels.cons rfl (VRels.cons rfl (VRels.cons rfl .nil))⟩, hi.upd hy hb rfl, MStep.upd _ hy rfl hb _⟩
        simp [Instr.next, hgo, hsz, hlt, hdec', hso]
      · rename_i hlt
        cases hp
        have hlt : ¬ pos < l.length := fun h => by rw [show Nat.blt pos l.length = true from Nat.ble_eq_true_of_le h] at hlt; cases hlt
        refine ⟨R, _, w, ?_, ⟨#[.bool false], rfl, VRels.cons rfl .nil⟩, hi, MStep.refl _ _ _⟩
        simp [Instr.next, hgo, hsz, hlt]
    · cases hp
  · cases hp

/-! ### append -/
theorem growBy_le (n : Nat) : ∀ (r c : Nat), Builtin.growBy n r c ≤ (c + 768) * 2 ^ r
  | 0, c => by simp [Builtin.growBy]
  | r + 1, c => by
    unfold Builtin.growBy
    split
    · have : 1 ≤ 2 ^ (r + 1) := Nat.one_le_two_pow
      calc c ≤ (c + 768) * 1 := by omega
        _ ≤ _ := Nat.mul_le_mul_left _ this
    · refine Nat.le_trans (growBy_le n r _) ?_
      rw [Nat.pow_succ, Nat.mul_comm (2 ^ r) 2, ← Nat.mul_assoc]
      exact Nat.mul_le_mul_right _ (by omega)
theorem nextCap_le {need c : Nat} (h : need ≤ 1000000) (hc : c < need) : Builtin.nextslicecap need c ≤ 20000000 := by
  unfold Builtin.nextslicecap
  split
  · omega
  · split
    · omega
    · have := growBy_le need 4 c
      simp only [Nat.reducePow] at this
      exact Nat.le_trans this (by omega)

theorem run_appNew {m : AM} {sT xT elem ty : TypeId} {xd : TypeDesc} {i : TypeInfo} {z : AVal} {base : Option Addr} {sl sc n : Nat} {v : Value} {old xs : List AVal} {os ns : List Value} (hi : MemInv ρ R m w)
    (hs : P.underlying sT = some (.slice elem)) (hxd : P.underlying xT = some xd) (hni : ∀ k, xd ≠ .int k) (hinf : P.info? elem = some i) (hz : zeroA P elem = some z) (hzl : z.cells.length = i.size) (hby : i.bytes ≤ 100000)
    (hln : (Builtin.lenOf v).run P w = .ok n w) (hneed : sl + n ≤ 1000000) (hfull : sc < sl + n)
    (hold : (Builtin.firstCells i.size sl (.slice base sl sc)).run P { w with drawn := w.drawn + 1 } = .ok os.toArray { w with drawn := w.drawn + 1 }) (hor : VRels ρ R old os)
    (hnew : (Builtin.firstCells i.size n v).run P { w with drawn := w.drawn + 1 } = .ok ns.toArray { w with drawn := w.drawn + 1 }) (hnr : VRels ρ R xs ns)
    (hol : os.length = sl * i.size) (hnl : ns.length = n * i.size) :
    EOk P ρ R m w (Builtin.append_ #[sT, xT] ty #[.slice base sl sc, v]) (appNew m elem i.size (sl + n) old xs).1 (appNew m elem i.size (sl + n) old xs).2 := by
  obtain ⟨z', z1, z2⟩ := run_zero w ρ R hz
  have hzc : z'.cells.size = i.size := by
    have := z2.cells.length
    simp only [Array.length_toList] at this
    omega
  have hsize : szA P elem = some i.size := by simp [szA, hinf]
  let cap := (Question.appendCap (sl + n) sc elem).cut (w.tape w.drawn (Question.appendCap (sl + n) sc elem))
  have hcap : sl + n ≤ cap := Nat.le_add_right _ _
  have hz1' : (zeroValue elem).run P { w with drawn := w.drawn + 1 } = .ok z' { w with drawn := w.drawn + 1 } := by
    unfold zeroA at hz
    rw [hinf] at hz
    simp only at hz
    split at hz
    · rename_i q hq
      have : z' = q := by
        have h1 := z1
        simp [zeroValue, run_info w hinf, hq] at h1
        exact h1.symm
      subst this
      simp [zeroValue, run_info _ hinf, hq]
    · cases hz
  let arr : Array Value := os.toArray ++ ns.toArray ++ Builtin.zeroCells z'.cells (cap - (sl + n))
  have harr : arr.size = cap * i.size := by
    simp only [arr, Array.size_append, List.size_toArray, Builtin.zeroCells, Array.size_map, Array.size_range, hol, hnl, hzc]
    rw [← Nat.add_mul, ← Nat.add_mul]
    congr 1; omega
  refine ⟨R.push m.nx w.heap.size cap, .slice (some ⟨w.heap.size, 0, none⟩) (sl + n) cap, { w with heap := w.heap.push (.cells arr elem), drawn := w.drawn + 1 }, ?_, ⟨w.heap.size, Rl.push_blk _ _ _ _, by simp [ACap.den, Rl.push_cap]⟩, ?_, MStep.push _ _ rfl ⟨rfl, rfl, rfl⟩⟩
  · have hb : Builtin.nextslicecap (sl + n) sc * i.bytes ≤ 20000000 * 100000 := Nat.mul_le_mul (nextCap_le hneed hfull) hby
    have hm : IntKind.i64.max = 9223372036854775807 := by decide
    have hb' : ¬ (Builtin.nextslicecap (sl + n) sc * i.bytes > 2 ^ 48) := by
      have : (20000000 * 100000 : Nat) ≤ 2 ^ 48 := by decide
      exact Nat.not_lt.2 (Nat.le_trans hb this)
    have hmx : ¬ (((sl + n : Nat) : Int) > IntKind.i64.max ∧ (False ∨ i.bytes = 0)) := by
      rw [hm]; intro h; have := h.1; omega
    have hle : ¬ (sl + n ≤ sc) := by omega
    unfold Builtin.append_
    simp only [List.getElem?_toArray, List.getElem?_cons_zero, List.getElem?_cons_succ, Sem.run_bind, run_und w hs, Result.andThen_ok, run_size w hsize, run_und w hxd, Sem.run_pure, Bool.false_eq_true, if_false, hln, hle, run_info w hinf, hmx, hb', run_choose, Question.forced, run_askRoom, Bool.not_false, if_true]
    rw [run_info _ hinf]
    simp only [Result.andThen_ok, hold, hnew, hz1', newRow, Sem.run_bind, run_newObj, Sem.run_pure, arr, cap]
  · refine hi.push (x := .grow elem (old ++ xs) i.size) cap rfl ⟨arr, (0, 0), os ++ ns, (Builtin.zeroCells z'.cells (cap - (sl + n))).toList, rfl, by simp [arr], ?_, ?_, noFrz0 _⟩
    · exact (hor.append hnr).mono (Rl.push_le _ _ (hi.fresh _ (Nat.le_refl _))) _ _
    · rw [Rl.push_cap]; exact harr

theorem MemInv.drawn {m : AM} (hi : MemInv ρ R m w) (n : Nat) : MemInv ρ R m { w with drawn := n } := hi.heap rfl

/-- Memory matters by what it gives. -/
theorem MemInv.congr {m m' : AM} (hi : MemInv ρ R m w) (h : ∀ j, m'.h.get j = m.h.get j) (hn : m'.nx = m.nx) : MemInv ρ R m' w :=
  ⟨fun id x hx => hi.rel id x (by rw [← h]; exact hx), fun id id' x x' b hx hx' => hi.inj id id' x x' b (by rw [← h]; exact hx) (by rw [← h]; exact hx'), fun id hid => hi.fresh id (by omega)⟩
theorem MStep.congr {R R' : Rl} {m m' m'' : AM} {w w' : World} (hs : MStep R m w R' m' w') (h : ∀ j, m''.h.get j = m'.h.get j) (hn : m''.nx = m'.nx) : MStep R m w R' m'' w' :=
  ⟨hs.ext, by rw [hn]; exact hs.nx, hs.size, hs.frame, fun id x b hx => hs.live id x b (by rw [← h]; exact hx), hs.os, hs.tape, hs.output⟩

/-- The append that has room. -/
theorem run_appIn {sT xT elem ty : TypeId} {xd : TypeDesc} {esz : Nat} {base : Option Addr} {sl sc n : Nat} {v : Value} {ns : List Value} {w' : World}
    (hs : P.underlying sT = some (.slice elem)) (hxd : P.underlying xT = some xd) (hni : ∀ k, xd ≠ .int k) (hsize : szA P elem = some esz)
    (hln : (Builtin.lenOf v).run P w = .ok n w) (hroom : sl + n ≤ sc) (hnew : (Builtin.firstCells esz n v).run P w = .ok ns.toArray w)
    (hst : match base with | some a => (storeCells (a.add (sl * esz)) ns).run P w = .ok () w' | none => w' = w) :
    (Builtin.append_ #[sT, xT] ty #[.slice base sl sc, v]).run P w = .ok (.slice base (sl + n) sc) w' := by
  unfold Builtin.append_
  cases base with
  | none =>
    simp only at hst
    subst hst
    simp [run_und _ hs, run_size _ hsize, run_und _ hxd, hln, hroom, hnew]
  | some a =>
    simp only at hst
    simp [run_und w hs, run_size w hsize, run_und w hxd, hln, hroom, hnew, hst]

theorem firstA_slice_len {h : Tr ABlk} {esz n id off len : Nat} {cap : ACap} {xs : List AVal} (hp : firstA h esz n (.slice id off len cap) = some xs) : xs.length = n * esz := by
  unfold firstA at hp
  simp only at hp
  split at hp
  · split at hp
    · exact (segL_some hp).2
    · cases hp
  · cases hp

set_option maxHeartbeats 1000000 in
theorem effAppend_ok {m m' : AM} {ts : Array TypeId} {s x r : AVal} {u v : Value} {ty : TypeId} (hi : MemInv ρ R m w) (hu : VRel ρ R s u) (hv : VRel ρ R x v) (hp : effAppend P m ts.toList s x = some (r, m')) :
    EOk P ρ R m w (Builtin.append_ ts ty #[u, v]) r m' := by
  unfold effAppend at hp
  split at hp
  · rename_i sT xT hts
    obtain rfl : ts = #[sT, xT] := by apply Array.ext'; simpa using hts
    split at hp
    · rename_i elem xd hs hxd
      split at hp
      · cases hp
      · rename_i hni
        split at hp
        · rename_i i z sl n hinf hz hsl hn
          split at hp
          · rename_i g1 g2 g3
            have g1 := Nat.eq_of_beq_eq_true g1
            have g2 := Nat.le_of_ble_eq_true g2
            split at hp
            · cases hp
            · rename_i xs hxs
              split at hp
              · rename_i g4 g5
                have g4 := Nat.le_of_ble_eq_true g4
                have g5 := Nat.eq_of_beq_eq_true g5
                rw [forceN_eq] at hp
                have hsize : szA P elem = some i.size := by simp [szA, hinf]
                have hln := run_lenOf (P := P) (w := w) hv hn
                obtain ⟨ns, n1, n2⟩ := run_first (P := P) hi.ok hv hxs
                obtain ⟨ns', n1', n2'⟩ := run_first (P := P) (hi.drawn (w.drawn + 1)).ok hv hxs
                have hni' : ∀ k, xd ≠ .int k := fun k e => hni k e
                split at hp
                · -- a nil slice
                  cases hu
                  obtain rfl : sl = 0 := by simpa [lenA] using hsl.symm
                  split at hp
                  · rename_i h0
                    obtain rfl := Nat.eq_of_beq_eq_true h0
                    cases hp
                    refine ⟨R, .slice none 0 0, w, ?_, rfl, hi, MStep.refl _ _ _⟩
                    exact run_appIn hs hxd hni' hsize hln (Nat.le_refl _) n1 rfl
                  · rename_i h0
                    cases hp
                    have hn0 : n ≠ 0 := fun e => by subst e; simp at h0
                    have := run_appNew (P := P) (ty := ty) (base := none) (sl := 0) (sc := 0) (n := n) (old := []) (os := []) (ns := ns') hi hs hxd hni' hinf hz g1 g2 hln (by omega) (by omega) rfl .nil n1' n2' (by simp) (by rw [n2'.length, g5])
                    simpa [appNew] using this
                · -- a slice of a known capacity
                  rename_i id off len c
                  obtain rfl : len = sl := by simpa [lenA] using hsl
                  obtain ⟨b, hb, rfl⟩ := hu
                  simp only [ACap.den]
                  split at hp
                  · rename_i hle
                    have hle := Nat.le_of_ble_eq_true hle
                    split at hp
                    · rename_i y hy
                      split at hp
                      · rename_i y' hput
                        cases hp
                        obtain ⟨o, ho, hr⟩ := hi.ok id y b hy hb
                        obtain ⟨o', q1, q2⟩ := run_put (P := P) ho hr hput n2
                        refine ⟨R, .slice (some ⟨b, off, none⟩) (len + n) c, w.putObj b o', ?_, ⟨b, hb, rfl⟩, hi.upd hy hb q2, MStep.upd _ hy (ABlk.put_wr hput) hb _⟩
                        exact run_appIn hs hxd hni' hsize hln hle n1 (by simpa [add_mk] using q1)
                      · cases hp
                    · cases hp
                  · rename_i hle
                    have hle : ¬ len + n ≤ c := fun e => by rw [Nat.ble_eq_true_of_le e] at hle; cases hle
                    split at hp
                    · rename_i old hold
                      cases hp
                      obtain ⟨os, o1, o2⟩ := run_first (P := P) (hi.drawn (w.drawn + 1)).ok (x := .slice id off len (.lit c)) ⟨b, hb, rfl⟩ hold
                      exact run_appNew (P := P) (ty := ty) (base := some ⟨b, off, none⟩) (sl := len) (sc := c) (n := n) hi hs hxd hni' hinf hz g1 g2 hln (by omega) (by omega) o1 o2 n1' n2' (by rw [o2.length, firstA_slice_len hold]) (by rw [n2'.length, g5])
                    · cases hp
                · -- a slice that owns its block
                  rename_i id off len sub
                  obtain rfl : len = sl := by simpa [lenA] using hsl
                  obtain ⟨b, hb, rfl⟩ := hu
                  simp only [ACap.den]
                  split at hp
                  · rename_i e vs esz hy
                    split at hp
                    · rename_i k1 k2 k3 k4
                      obtain rfl := Nat.eq_of_beq_eq_true k1
                      obtain rfl := Nat.eq_of_beq_eq_true k2
                      have k3 : i.size ≠ 0 := fun e => by rw [e] at k3; simp at k3
                      obtain rfl := Nat.eq_of_beq_eq_true k4
                      obtain ⟨o, ho, hr⟩ := hi.ok id _ b hy hb
                      have hr' := hr
                      obtain ⟨c, fr, pre, rest, rfl, c0, c1, c2, c3⟩ := hr'
                      have hkn : vs.length ≤ R.cap id * i.size := by
                        rw [← c2, ← c1.length, ← Array.length_toList, c0]; simp
                      split at hp
                      · rename_i hle
                        have hle := Nat.le_of_ble_eq_true hle
                        have hcap : sub + (len + n) ≤ R.cap id := Nat.le_of_mul_le_mul_right (Nat.le_trans hle hkn) (Nat.pos_of_ne_zero k3)
                        split at hp
                        · rename_i y' hput
                          cases hp
                          obtain ⟨o', q1, q2⟩ := run_put (P := P) ho hr hput n2
                          refine ⟨R, .slice (some ⟨b, sub * i.size, none⟩) (len + n) (R.cap id - sub), w.putObj b o', ?_, ⟨b, hb, rfl⟩, hi.upd hy hb q2, MStep.upd _ hy rfl hb _⟩
                          exact run_appIn hs hxd hni' hsize hln (by omega) n1 (by simpa [add_mk] using q1)
                        · cases hp
                      · split at hp
                        · rename_i k5 k6
                          obtain rfl := Nat.eq_of_beq_eq_true k6
                          have k5 := Nat.eq_of_beq_eq_true k5
                          split at hp
                          · rename_i hones
                            cases hp
                            simp only [Nat.zero_mul, Nat.sub_zero]
                            by_cases hroom : len + n ≤ R.cap id
                            · -- in place
                              have hnl : ns.length = n * i.size := by rw [n2.length, g5]
                              have hpl : pre.length = vs.length := c1.length
                              have hfit : len * i.size + ns.length ≤ c.size := by
                                rw [hnl, c2, ← Nat.add_mul]; exact Nat.mul_le_mul_right _ hroom
                              have hst := run_storeSeg P b 0 e fr ns (len * i.size) c w ho c3 (by omega) (n2.ones hones)
                              simp only [Nat.zero_add] at hst
                              have hst' : (storeCells ⟨b, len * i.size, none⟩ ns).run P w = .ok () (w.putObj b (.cells (spliceL c.toList (len * i.size) ns).toArray e fr)) := by
                                have := run_storeSeg P b (len * i.size) e fr ns 0 c w ho c3 (by omega) (n2.ones hones)
                                simpa using this
                              have hspl : spliceL c.toList (len * i.size) ns = pre ++ ns ++ rest.drop ns.length := by
                                unfold spliceL
                                rw [c0, k5, ← hpl]
                                simp
                              have hsz : (spliceL c.toList (len * i.size) ns).toArray.size = c.size := by
                                simp [spliceL_length (l := c.toList) (xs := ns) (off := len * i.size) (by simpa using hfit)]
                              refine ⟨R.push m.nx b (R.cap id), .slice (some ⟨b, 0, none⟩) (len + n) (R.cap id), w.putObj b (.cells (spliceL c.toList (len * i.size) ns).toArray e fr), ?_,
                                ⟨b, Rl.push_blk _ _ _ _, by simp [ACap.den, Rl.push_cap]⟩, hi.rekey hy hb _ ⟨_, fr, pre ++ ns, rest.drop ns.length, rfl, by simp [hspl], ?_, ?_, ?_⟩, MStep.rekey _ hy rfl hb _ _⟩
                              · exact run_appIn hs hxd hni' hsize hln hroom n1 (by simpa [add_mk] using hst')
                              · exact (c1.append n2).mono (Rl.push_le _ _ (hi.fresh _ (Nat.le_refl _))) _ _
                              · rw [hsz, Rl.push_cap]; exact c2
                              · rw [hsz]; exact c3
                            · -- a new row
                              have hold : firstA m.h i.size len (.slice id 0 len (.own 0)) = some vs := by
                                simp only [firstA, hy, ABlk.vals, segL]
                                rw [k5]; simp
                              obtain ⟨os, o1, o2⟩ := run_first (P := P) (hi.drawn (w.drawn + 1)).ok (x := .slice id 0 len (.own 0)) ⟨b, hb, rfl⟩ hold
                              simp only [ACap.den, Nat.sub_zero] at o1
                              obtain ⟨R', u', w', p1, p2, p3, p4⟩ := run_appNew (P := P) (ty := ty) (base := some ⟨b, 0, none⟩) (sl := len) (sc := R.cap id) (n := n) hi hs hxd hni' hinf hz g1 g2 hln (by omega) (by omega) o1 o2 n1' n2' (by rw [o2.length, k5]) (by rw [n2'.length, g5])
                              have hid : id ≠ m.nx := fun e => by rw [e, hi.fresh _ (Nat.le_refl _)] at hb; cases hb
                              have hg : ∀ j, ((m.drop id).push (.grow e (vs ++ xs) i.size)).h.get j = ((m.push (.grow e (vs ++ xs) i.size)).drop id).h.get j := by
                                intro j
                                simp only [AM.push, AM.drop, Tr.get_set, Tr.get_del]
                                by_cases e1 : j = m.nx
                                · rw [if_pos e1, if_neg (fun e2 => hid (e2.symm.trans e1)), if_pos e1]
                                · rw [if_neg e1]
                                  by_cases e2 : j = id
                                  · rw [if_pos e2, if_pos e2]
                                  · rw [if_neg e2, if_neg e2, if_neg e1]
                              exact ⟨R', u', w', p1, p2, (p3.drop id).congr hg rfl, (p4.trans (MStep.drop _ _ _ id)).congr hg rfl⟩
                          · cases hp
                        · cases hp
                    · cases hp
                  · cases hp
                · cases hp
              · cases hp
          · cases hp
        · cases hp
    · cases hp
  · cases hp

/-! ### unsafe.String -/
theorem wrap_u8 (n : Int) : 0 ≤ IntKind.u8.wrap n ∧ IntKind.u8.wrap n < 256 := by
  simp only [IntKind.wrap, IntKind.bits, IntKind.signed, Bool.false_and, Bool.false_eq_true, if_false]
  omega
theorem u8Ok_ok {e : IE} (h : u8Ok e = true) : 0 ≤ e.den ρ ∧ e.den ρ < 256 := by
  unfold u8Ok at h
  split at h
  · have := blt_true h; simp only [IE.den, Int.ofNat_eq_natCast]; omega
  · exact wrap_u8 _
  · rename_i s i
    simp only [IE.den]
    have := UInt8.toNat_lt (((s.den ρ)[(i.den ρ).toNat]?).getD 0)
    omega
  · exact wrap_u8 _
  · exact wrap_u8 _
  · exact wrap_u8 _
  · exact wrap_u8 _
  · exact wrap_u8 _
  · cases h

theorem u8s_ok : ∀ {l : List AVal} {us : List Value}, VRels ρ R l us → u8sOk l = true → us = (us.map byteV).map fun b => .int .u8 b.toNat
  | [], _, h, _ => by simp only [VRels] at h; subst h; rfl
  | x :: l, _, ⟨u, us', rfl, hu, hl⟩, h => by
    unfold u8sOk at h
    split at h
    · rename_i e; cases e
    · rename_i n l' e
      cases e
      split at h
      · rename_i hn
        obtain rfl := VRel_int hu
        have := u8Ok_ok (ρ := ρ) hn
        have ih := u8s_ok hl h
        simp only [List.map_cons, List.cons.injEq]
        refine ⟨?_, ih⟩
        simp only [byteV, UInt8.toNat_ofNat', Value.int.injEq, true_and]
        have : (n.den ρ).toNat % 2 ^ 8 = (n.den ρ).toNat := Nat.mod_eq_of_lt (by simp; omega)
        rw [this]; omega
      · cases h
    · cases h

theorem effString_ok {m m' : AM} {p n r : AVal} {u v : Value} {ts : Array TypeId} {ty : TypeId} (hi : MemInv ρ R m w) (hpv : VRel ρ R p u) (hn : VRel ρ R n v) (hp : effString P m ts.toList p n = some (r, m')) :
    EOk P ρ R m w (Builtin.unsafeString_ ts ty #[u, v]) r m' := by
  unfold effString at hp
  split at hp
  · rename_i pt it hts
    obtain rfl : ts = #[pt, it] := by apply Array.ext'; simpa using hts
    obtain rfl := VRel_int hn
    split at hp
    · cases hp; cases hpv
      exact ⟨R, .string .empty, w, Lib.run_unsafeString_none w pt it ty none, rfl, hi, MStep.refl _ _ _⟩
    · cases hp; obtain ⟨b, hb, rfl⟩ := hpv
      exact ⟨R, .string .empty, w, Lib.run_unsafeString_none w pt it ty _, rfl, hi, MStep.refl _ _ _⟩
    · split at hp; cases hp
  · rename_i pt it n' hts
    obtain rfl : ts = #[pt, it] := by apply Array.ext'; simpa using hts
    obtain rfl := VRel_int hn
    split at hp
    · rename_i id ut hut
      obtain ⟨b, hb, rfl⟩ := hpv
      split at hp
      · rename_i e vs esz hy
        split at hp
        · rename_i l g0 g1 g3 g4
          split at hp
          · rename_i s hu8 hs
            cases hp
            obtain rfl := Nat.eq_of_beq_eq_true g0
            have g1 := Nat.eq_of_beq_eq_true g1
            have g4 := Nat.le_of_ble_eq_true g4
            obtain ⟨o, ho, hr⟩ := hi.ok id _ b hy hb
            obtain ⟨c, fr, pre, rest, rfl, c0, c1, c2, c3⟩ := hr
            obtain ⟨gl, gn⟩ := segL_some g3
            subst gl
            have q2 := (c1.drop 0).take (n' + 1)
            obtain ⟨q3, q4⟩ := bytesA_ok q2 hs
            have hbytes := u8s_ok q2 hu8
            have hul : ((pre.drop 0).take (n' + 1)).length = n' + 1 := by rw [q2.length, gn]
            have hsl : (s.den ρ).length = n' + 1 := by rw [q3, List.length_map, hul]
            have hcl : c.size = pre.length + rest.length := by rw [← Array.length_toList, c0]; simp
            have hfit : n' + 1 ≤ c.size := by simp at hul; omega
            have hrun := Lib.run_unsafeString_row (P := P) w pt it ty e hut g1 b c.size (by simp [World.shape?, ho]) (s.den ρ) (by intro h0; rw [h0] at hsl; simp at hsl) (by omega) (by omega) (fun j x hj => by
              rw [add_mk, cell_of_heap ho, ← Array.getElem?_toList, c0, Nat.zero_add]
              have hj' : ((pre.drop 0).take (n' + 1))[j]? = some (.int .u8 x.toNat) := by
                rw [hbytes, ← q3, List.getElem?_map, hj]; rfl
              rw [List.getElem?_take] at hj'
              split at hj'
              · rw [List.drop_zero] at hj'
                rw [List.getElem?_append_left (List.getElem?_eq_some_iff.1 hj').1]; exact hj'
              · cases hj')
            rw [hsl] at hrun
            have hfz : ∃ fr', w.freeze ⟨b, 0, none⟩ (n' + 1) = w.putObj b (.cells c e fr') := by
              refine ⟨if fr.1 == fr.2 then (0, 0 + (n' + 1)) else (min fr.1 0, max fr.2 (0 + (n' + 1))), ?_⟩
              unfold World.freeze World.putObj
              rw [if_neg (by omega)]
              congr 1
              apply Array.ext_getElem?
              intro j
              rw [Array.getElem?_modify, Array.getElem?_setIfInBounds]
              by_cases ej : b = j
              · subst ej
                have hbl := (Array.getElem?_eq_some_iff.1 ho).1
                rw [if_pos rfl, if_pos rfl, if_pos hbl, ho]
                rfl
              · rw [if_neg ej, if_neg ej]
            obtain ⟨fr', hfz⟩ := hfz
            rw [hfz] at hrun
            have hx : (ABlk.cells e [] false).wr = false := rfl
            have h1 : MemInv ρ R (m.upd id (.map [])) (w.putObj b (.map #[] 0)) := hi.upd hy hb ⟨#[], 0, rfl, rfl, MapKept.stamped_empty 0⟩
            refine ⟨R, .string (s.dens ρ), w.putObj b (.cells c e fr'), ?_, rfl, ?_, ?_⟩
            · exact hrun
            · refine ⟨fun j z hz => ?_, (hi.drop id).inj, hi.fresh⟩
              simp only [AM.drop, Tr.get_del] at hz
              by_cases ej : j = id
              · rw [if_pos ej] at hz; cases hz
              · rw [if_neg ej] at hz
                obtain ⟨b', o', hb', ho', hr'⟩ := hi.rel j z hz
                refine ⟨b', o', hb', ?_, hr'⟩
                rw [World.putObj_heap_other (fun e' => ej (hi.inj j id z _ b hz hy (by rw [hb', e']) hb))]
                exact ho'
            · exact (MStep.upd (.map []) hy rfl hb _).trans ((MStep.drop R (m.upd id (.map [])) _ id).congr (fun j => by
                simp only [AM.drop, AM.upd, Tr.get_del, Tr.get_set]
                by_cases ej : j = id
                · rw [if_pos ej, if_pos ej]
                · rw [if_neg ej, if_neg ej, if_neg ej]) rfl)
          · cases hp
        · cases hp
      · cases hp
    · cases hp
  · cases hp
end
end Go.Sx
