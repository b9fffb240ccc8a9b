/-
  The abstract executor, part J: the quiet operations as one function, 'peek'.
  No condition: definitions and lemmas.
-/
import Derived.Test.YtioclaoooghllaaGreatDoorSxI
import Derived.Lib.UnsafeStr
namespace Go.Sx
open Go.Instr

/-- The method of an interface value: its function and the receiver. -/
def methA (P : Program) (recv : AVal) (name : String) : Option (FuncId × AVal) :=
  match recv with
  | .iface t v =>
    match P.info? t with
    | some i => match i.methods.toList.find? (·.name == name) with
      | some m => match m.path.toList, m.func, P.underlying t with
        | [], some (f, true), some (.pointer _) => some (f, v)
        | [], some (_, true), _ => none
        | [], some (_, false), some (.pointer _) => none
        | [], some (f, false), some _ => some (f, v)
        | _, _, _ => none
      | none => none
    | none => none
  | _ => none

def evL (ev : Operand → Option AVal) : List Operand → Option (List AVal)
  | [] => some []
  | x :: l => match ev x with
    | none => none
    | some v => match evL ev l with | none => none | some r => some (v :: r)
def evO (ev : Operand → Option AVal) : Option Operand → Option (Option AVal)
  | none => some none
  | some x => match ev x with | none => none | some v => some (some v)

section
variable {P : Program} {ρ : Env} {R : Rl} {w : World} {h : Tr ABlk}

theorem evL_ok {ev : Operand → Option AVal} {σ : Operand → Value} : ∀ {l : List Operand} {xs : List AVal}, EvOk ρ R ev σ l → evL ev l = some xs → VRels ρ R xs (l.map σ)
  | [], xs, _, hp => by cases hp; rfl
  | x :: l, xs, he, hp => by
    unfold evL at hp
    split at hp
    · cases hp
    rename_i v hv
    split at hp
    · cases hp
    rename_i r hr
    cases hp
    exact VRels.cons (he x (by simp) v hv) (evL_ok (fun y hy => he y (by simp [hy])) hr)

theorem evO_ok {ev : Operand → Option AVal} {σ : Operand → Value} {o : Option Operand} {r : Option AVal} (he : EvOk ρ R ev σ o.toList) (hp : evO ev o = some r) : ORel ρ R r (o.map σ) := by
  cases o with
  | none => cases hp; rfl
  | some x =>
    unfold evO at hp
    simp only at hp
    split at hp
    · cases hp
    rename_i v hv
    cases hp
    exact ⟨σ x, rfl, he x (by simp) v hv⟩

/-! ### pick, range, extract, typeAssert, makeInterface, nilCheck -/
def pkPick (c a b : AVal) : Option AVal :=
  match c with
  | .bool (.lit true) => some a
  | .bool (.lit false) => some b
  | .bool c => match a, b with
    | .bool a, .bool b => some (.bool (.pick c a b))
    | .int k a, .int k' b => if k = k' then some (.int k (.pick c a b)) else none
    | .str a, .str b => some (.str (.pick c a b))
    | _, _ => none
  | _ => none
theorem pkPick_ok {c a b y : AVal} {u v x : Value} (hc : VRel ρ R c u) (ha : VRel ρ R a v) (hb : VRel ρ R b x) (hp : pkPick c a b = some y) :
    VOk P ρ R w (do pure (if ← asBool u then v else x)) (.val y) := by
  unfold pkPick at hp
  split at hp
  · cases hp; obtain rfl := VRel_bool hc
    exact ⟨v, by simp [asBool, BE.den], ha⟩
  · cases hp; obtain rfl := VRel_bool hc
    exact ⟨x, by simp [asBool, BE.den], hb⟩
  · rename_i c _ _
    obtain rfl := VRel_bool hc
    split at hp
    · cases hp; obtain rfl := VRel_bool ha; obtain rfl := VRel_bool hb
      exact ⟨_, rfl, by simp only [VRel, BE.den]; split <;> rfl⟩
    · split at hp
      · rename_i e; subst e
        cases hp; obtain rfl := VRel_int ha; obtain rfl := VRel_int hb
        exact ⟨_, rfl, by simp only [VRel, IE.den]; split <;> rfl⟩
      · cases hp
    · cases hp; obtain rfl := VRel_str ha; obtain rfl := VRel_str hb
      exact ⟨_, rfl, by simp only [VRel, SE.dens, SE.den]; split <;> rfl⟩
    · cases hp
  · cases hp

def pkRange (P : Program) (t : TypeId) (x : AVal) : Option PR :=
  match P.underlying t, x with
  | some .string, .str s => some (.new (.strIter s 0) .ptr)
  | _, _ => none
theorem pkRange_ok {t : TypeId} {x : AVal} {u : Value} {r : PR} (hx : VRel ρ R x u) (hp : pkRange P t x = some r) : VOk P ρ R w (Instr.range t u) r := by
  unfold pkRange at hp
  split at hp
  · rename_i s hd
    cases hp
    obtain rfl := VRel_str hx
    exact ⟨.pointer (some ⟨w.heap.size, 0, none⟩), { w with heap := w.heap.push (.stringIter (s.dens ρ) 0) }, .stringIter (s.dens ρ) 0, 0, by simp [Instr.range, run_und w hd], rfl, ⟨rfl, rfl, rfl⟩, fun id hid => ⟨rfl, _, Rl.push_blk _ _ _ _, rfl⟩⟩
  · cases hp

def pkExtract (x : AVal) (i : Nat) : Option AVal := match x with | .tuple vs => vs[i]? | _ => none
theorem pkExtract_ok {x y : AVal} {u : Value} {i : Nat} (hx : VRel ρ R x u) (hp : pkExtract x i = some y) : VOk P ρ R w (Instr.extract u i) (.val y) := by
  unfold pkExtract at hp
  split at hp
  · obtain ⟨c, rfl, hc⟩ := hx
    obtain ⟨v, hv, hy⟩ := hc.get hp
    rw [Array.getElem?_toList] at hv
    exact ⟨v, by simp [Instr.extract, hv], hy⟩
  · cases hp

def pkAssert (P : Program) (x : AVal) (asserted : TypeId) (ok : Bool) : Option AVal :=
  match P.underlying asserted with
  | some (.interface want) => match x with
    | .iface t _ => match P.info? t with
      | some i => match missingMethod want i.methods with
        | none => some (lkRes ok x true)
        | some _ => none
      | none => none
    | .nilIface => match ok, zeroA P asserted with | true, some z => some (lkRes ok z false) | _, _ => none
    | _ => none
  | some _ => match x with
    | .iface t v => match Nat.beq t asserted with
      | true => some (lkRes ok v true)
      | false => match ok, zeroA P asserted with | true, some z => some (lkRes ok z false) | _, _ => none
    | .nilIface => match ok, zeroA P asserted with | true, some z => some (lkRes ok z false) | _, _ => none
    | _ => none
  | none => none
theorem pkAssert_ok {x y : AVal} {u : Value} {xT asserted : TypeId} {ok : Bool} (hx : VRel ρ R x u) (hp : pkAssert P x asserted ok = some y) : VOk P ρ R w (Instr.typeAssert u xT asserted ok) (.val y) := by
  have fin : ∀ {v : AVal} {v' : Value} {b : Bool}, VRel ρ R v v' → VRel ρ R (lkRes ok v b) (if ok then .tuple #[v', .bool b] else v') := by
    intro v v' b hv
    cases ok
    · simpa [lkRes] using hv
    · exact ⟨#[v', .bool b], rfl, VRels.cons hv (VRels.cons rfl .nil)⟩
  unfold pkAssert at hp
  split at hp
  · rename_i want hd
    split at hp
    · obtain ⟨v', rfl, hv⟩ := hx
      split at hp
      · rename_i i hi
        split at hp
        · rename_i hm
          cases hp
          exact ⟨_, by simp [Instr.typeAssert, run_und w hd, run_info w hi, hm], fin ⟨v', rfl, hv⟩⟩
        · cases hp
      · cases hp
    · cases hx
      split at hp
      · rename_i z hz
        cases hp
        obtain ⟨z', z1, z2⟩ := run_zero w ρ R hz
        exact ⟨.tuple #[z', .bool false], by simp [Instr.typeAssert, run_und w hd, z1], ⟨_, rfl, VRels.cons z2 (VRels.cons rfl .nil)⟩⟩
      · cases hp
    · cases hp
  · rename_i d hne hd
    split at hp
    · rename_i t _
      obtain ⟨v', rfl, hv⟩ := hx
      split at hp
      · rename_i ht
        obtain rfl := Nat.eq_of_beq_eq_true ht
        cases hp
        refine ⟨_, ?_, fin hv⟩
        simp only [Instr.typeAssert, Sem.run_bind, run_und w hd, Result.andThen_ok]
        cases d <;> first
          | exact (hne _ rfl).elim
          | simp
      · rename_i ht
        have ht : ¬ t = asserted := fun e => by subst e; simp at ht
        split at hp
        · rename_i z hz
          cases hp
          obtain ⟨z', z1, z2⟩ := run_zero w ρ R hz
          refine ⟨.tuple #[z', .bool false], ?_, ⟨_, rfl, VRels.cons z2 (VRels.cons rfl .nil)⟩⟩
          simp only [Instr.typeAssert, Sem.run_bind, run_und w hd, Result.andThen_ok]
          cases d <;> first
            | exact (hne _ rfl).elim
            | simp [ht, z1]
        · cases hp
    · cases hx
      split at hp
      · rename_i z hz
        cases hp
        obtain ⟨z', z1, z2⟩ := run_zero w ρ R hz
        refine ⟨.tuple #[z', .bool false], ?_, ⟨_, rfl, VRels.cons z2 (VRels.cons rfl .nil)⟩⟩
        simp only [Instr.typeAssert, Sem.run_bind, run_und w hd, Result.andThen_ok]
        cases d <;> first
          | exact (hne _ rfl).elim
          | simp [z1]
      · cases hp
    · cases hp
  · cases hp

def pkMkIface (P : Program) (t : TypeId) (x : AVal) : Option AVal := match P.underlying t with
  | some (.interface _) => none
  | some _ => some (.iface t x)
  | none => none
theorem pkMkIface_ok {t : TypeId} {x y : AVal} {u : Value} (hx : VRel ρ R x u) (hp : pkMkIface P t x = some y) : VOk P ρ R w (Instr.makeInterface t u) (.val y) := by
  unfold pkMkIface at hp
  split at hp
  · cases hp
  · rename_i d hne hd
    cases hp
    refine ⟨_, ?_, u, rfl, hx⟩
    simp only [Instr.makeInterface, Sem.run_bind, run_und w hd, Result.andThen_ok]
    cases d <;> first
      | exact (hne _ rfl).elim
      | simp
  · cases hp

/-! ### len, cap, max, min -/
def pkLen (P : Program) (h : Tr ABlk) (t : TypeId) (x : AVal) : Option AVal :=
  match P.underlying t with
  | some .string => match x with | .str s => some (.int .i64 (mkLen s)) | _ => none
  | some (.array n _) => some (.int .i64 (.lit (.ofNat n)))
  | some (.pointer arr) => match P.underlying arr with | some (.array n _) => some (.int .i64 (.lit (.ofNat n))) | _ => none
  | some (.slice _) => match x with
    | .slice _ _ n _ => some (.int .i64 (.lit (.ofNat n)))
    | .nilSlice => some (.int .i64 (.lit 0))
    | .slice0 => some (.int .i64 (.lit 0))
    | _ => none
  | some (.map _ _) => match x with
    | .nilMap => some (.int .i64 (.lit 0))
    | .map id => match h.get id with | some (.map es) => forceN es.length fun n => some (.int .i64 (.lit (.ofNat n))) | _ => none
    | _ => none
  | _ => none
theorem ERel.length : ∀ {xs : List (AVal × AVal)} {es : List MapEntry}, ERel ρ R xs es → es.length = xs.length
  | [], _, e => by simp only [ERel] at e; subst e; rfl
  | _ :: _, _, ⟨_, es', rfl, _, _, h3⟩ => by simp [ERel.length h3]
theorem pkLen_ok {t ty : TypeId} {x y : AVal} {u : Value} (hh : HeapOk ρ R h w) (hx : VRel ρ R x u) (hp : pkLen P h t x = some y) : VOk P ρ R w (Builtin.len_ #[t] ty #[u]) (.val y) := by
  unfold pkLen at hp
  split at hp
  · rename_i hd
    split at hp
    · rename_i s
      cases hp
      obtain rfl := VRel_str hx
      exact ⟨_, by simp [Builtin.len_, run_und w hd]; rfl, by simp [VRel, goInt, SE.dens, ByteArray.size]⟩
    · cases hp
  · rename_i hd
    cases hp
    exact ⟨_, by simp [Builtin.len_, run_und w hd]; rfl, rfl⟩
  · rename_i arr hd
    split at hp
    · rename_i n e hd2
      cases hp
      exact ⟨_, by simp [Builtin.len_, run_und w hd, run_und w hd2]; rfl, rfl⟩
    · cases hp
  · rename_i hd
    split at hp
    · cases hp; obtain ⟨b, hb, rfl⟩ := hx
      exact ⟨_, by simp [Builtin.len_, run_und w hd]; rfl, rfl⟩
    · cases hp; cases hx
      exact ⟨_, by simp [Builtin.len_, run_und w hd]; rfl, rfl⟩
    · cases hp; obtain ⟨a, c, rfl⟩ := hx
      exact ⟨_, by simp [Builtin.len_, run_und w hd]; rfl, rfl⟩
    · cases hp
  · rename_i hd
    split at hp
    · cases hp; cases hx
      exact ⟨_, by simp [Builtin.len_, run_und w hd]; rfl, rfl⟩
    · rename_i id
      obtain ⟨b, hb, rfl⟩ := hx
      split at hp
      · rename_i es hes
        rw [forceN_eq] at hp
        cases hp
        obtain ⟨o, ho, a, clk, rfl, her, _⟩ := hh id _ b hes hb
        have hl := her.length
        simp only [Array.length_toList] at hl
        have hgo : (getObj b).run P w = .ok (.map a clk) w := by simp [getObj, Sem.run, ho]
        exact ⟨_, by simp [Builtin.len_, run_und w hd, hgo]; rfl, by simp [VRel, goInt, IE.den, hl]⟩
      · cases hp
    · cases hp
  · cases hp

def pkCap (P : Program) (t : TypeId) (x : AVal) : Option AVal :=
  match P.underlying t, x with
  | some (.slice _), .slice _ _ _ (.lit n) => some (.int .i64 (.lit (.ofNat n)))
  | some (.slice _), .nilSlice => some (.int .i64 (.lit 0))
  | _, _ => none
theorem pkCap_ok {t ty : TypeId} {x y : AVal} {u : Value} (hx : VRel ρ R x u) (hp : pkCap P t x = some y) : VOk P ρ R w (Builtin.cap_ #[t] ty #[u]) (.val y) := by
  unfold pkCap at hp
  split at hp
  · rename_i hd
    cases hp; obtain ⟨b, hb, rfl⟩ := hx
    exact ⟨_, by simp [Builtin.cap_, run_und w hd]; rfl, rfl⟩
  · rename_i hd
    cases hp; cases hx
    exact ⟨_, by simp [Builtin.cap_, run_und w hd]; rfl, rfl⟩
  · cases hp

/-- unsafe.SliceData. -/
def pkSliceData (h : Tr ABlk) (x : AVal) : Option AVal :=
  match x with
  | .nilSlice => some .nilPtr
  | .slice id off _ (.lit (_ + 1)) => some (.ptr id off)
  | .slice id off (n + 1) (.own sub) => match h.get id with
    | some (.grow _ vs esz) => match Nat.ble ((sub + n + 1) * esz) vs.length, Nat.beq esz 0 with | true, false => some (.ptr id off) | _, _ => none
    | _ => none
  | _ => none
theorem pkSliceData_ok {ts : Array TypeId} {ty : TypeId} {x y : AVal} {u : Value} (hh : HeapOk ρ R h w) (hx : VRel ρ R x u) (hp : pkSliceData h x = some y) : VOk P ρ R w (Builtin.unsafeSliceData_ ts ty #[u]) (.val y) := by
  unfold pkSliceData at hp
  split at hp
  · cases hp; cases hx; exact ⟨_, rfl, rfl⟩
  · cases hp; obtain ⟨b, hb, rfl⟩ := hx
    exact ⟨.pointer (some ⟨b, _, none⟩), Lib.run_unsafeSliceData_row w ts ty _ _ _ (Nat.succ_ne_zero _), b, hb, rfl⟩
  · rename_i id off n sub
    obtain ⟨b, hb, rfl⟩ := hx
    split at hp
    · rename_i e vs esz hy
      split at hp
      · rename_i h1 h2
        cases hp
        have h1 := Nat.le_of_ble_eq_true h1
        have h2 : esz ≠ 0 := fun e => by rw [e] at h2; simp at h2
        obtain ⟨o, ho, c, fr, pre, rest, rfl, c0, c1, c2, c3⟩ := hh id _ b hy hb
        have hkn : vs.length ≤ R.cap id * esz := by
          rw [← c2, ← c1.length, ← Array.length_toList, c0]; simp
        have hcap : sub + n + 1 ≤ R.cap id := Nat.le_of_mul_le_mul_right (Nat.le_trans h1 hkn) (Nat.pos_of_ne_zero h2)
        have hne : R.cap id - sub ≠ 0 := by omega
        exact ⟨.pointer (some ⟨b, off, none⟩), Lib.run_unsafeSliceData_row w ts ty _ _ _ hne, b, hb, rfl⟩
      · cases hp
    · cases hp
  · cases hp

/-- The greatest, or the least, of numbers. -/
def pkExt (gt : Bool) : List AVal → Option AVal
  | .int k x :: rest => go gt k x rest
  | _ => none
  where
  go (gt : Bool) (k : IntKind) (x : IE) : List AVal → Option AVal
    | [] => some (.int k x)
    | .int _ y :: rest => go gt k (mkPickI (mkCmp (match gt with | true => .gtr | false => .lss) y x) y x) rest
    | _ => none
theorem pkMax_go {k : IntKind} : ∀ {l : List AVal} {x : IE} {us : List Value} {y : AVal}, VRels ρ R l us → pkExt.go true k x l = some y → ∃ v, (us.foldlM Builtin.max2 (.int k (x.den ρ))).run P w = .ok v w ∧ VRel ρ R y v
  | [], x, us, y, hl, hp => by
    simp only [VRels] at hl; subst hl
    cases hp
    exact ⟨_, rfl, rfl⟩
  | z :: l, x, us, y, hl, hp => by
    obtain ⟨u, us', rfl, hu, hl⟩ := hl
    unfold pkExt.go at hp
    split at hp
    · rename_i e; cases e
    · rename_i k' n r e
      cases e
      obtain rfl := VRel_int hu
      obtain ⟨v, h1, h2⟩ := pkMax_go hl hp
      refine ⟨v, ?_, h2⟩
      simp only [List.foldlM_cons, Sem.run_bind, Builtin.max2, Sem.run_pure, Result.andThen_ok]
      rw [← h1]
      congr 4
      simp [cmpFn]
    · cases hp
theorem pkMin_go {k : IntKind} : ∀ {l : List AVal} {x : IE} {us : List Value} {y : AVal}, VRels ρ R l us → pkExt.go false k x l = some y → ∃ v, (us.foldlM Builtin.min2 (.int k (x.den ρ))).run P w = .ok v w ∧ VRel ρ R y v
  | [], x, us, y, hl, hp => by
    simp only [VRels] at hl; subst hl
    cases hp
    exact ⟨_, rfl, rfl⟩
  | z :: l, x, us, y, hl, hp => by
    obtain ⟨u, us', rfl, hu, hl⟩ := hl
    unfold pkExt.go at hp
    split at hp
    · rename_i e; cases e
    · rename_i k' n r e
      cases e
      obtain rfl := VRel_int hu
      obtain ⟨v, h1, h2⟩ := pkMin_go hl hp
      refine ⟨v, ?_, h2⟩
      simp only [List.foldlM_cons, Sem.run_bind, Builtin.min2, Sem.run_pure, Result.andThen_ok]
      rw [← h1]
      congr 4
      simp [cmpFn]
    · cases hp
theorem pkExt_ok {gt : Bool} {l : List AVal} {us : Array Value} {ts : Array TypeId} {ty : TypeId} {y : AVal} (hl : VRels ρ R l us.toList) (hp : pkExt gt l = some y) :
    VOk P ρ R w (match gt with | true => Builtin.max_ ts ty us | false => Builtin.min_ ts ty us) (.val y) := by
  unfold pkExt at hp
  split at hp
  · obtain ⟨u, us', e, hu, hl⟩ := hl
    obtain rfl := VRel_int hu
    cases gt
    · obtain ⟨v, h1, h2⟩ := pkMin_go (P := P) (w := w) hl hp
      exact ⟨v, by simp only [Builtin.min_, e]; exact h1, h2⟩
    · obtain ⟨v, h1, h2⟩ := pkMax_go (P := P) (w := w) hl hp
      exact ⟨v, by simp only [Builtin.max_, e]; exact h1, h2⟩
  · cases hp

/-! ### All of them -/
def fnA : Fn → Option AFn
  | .yield _ => none
  | f => some (.conc f)

theorem find_toList {α : Type} (a : Array α) (p : α → Bool) : a.find? p = a.toList.find? p := by simp

theorem methA_ok {recv v : AVal} {u : Value} {name : String} {f : FuncId} (hr : VRel ρ R recv u) (hm : methA P recv name = some (f, v)) :
    ∃ t x, u = .iface t x ∧ VRel ρ R v x ∧ (∀ n, (method (n + 1) t x name).run P w = .ok (f, x) w) ∧ ∀ n, (nilAhead (n + 1) t x name).run P w = .ok (some false) w := by
  unfold methA at hm
  split at hm
  · rename_i t y
    obtain ⟨x, rfl, hx⟩ := hr
    split at hm
    · rename_i i hi
      split at hm
      · rename_i m hfind
        have hfind' : i.methods.find? (·.name == name) = some m := by rw [find_toList]; exact hfind
        split at hm
        · rename_i f' e hpath hfunc hd
          cases hm
          refine ⟨t, x, rfl, hx, fun n => ?_, fun n => ?_⟩
          · simp only [method, Sem.run_bind, run_info w hi, Result.andThen_ok, hfind', hpath, follow, Sem.run_pure, hfunc, receiverAt, run_und w hd, Place.get]
          · simp only [nilAhead, Sem.run_bind, run_info w hi, Result.andThen_ok, hfind', hpath, followBlind, Sem.run_pure, hfunc]
        · cases hm
        · cases hm
        · rename_i f' d hne hpath hfunc hd
          cases hm
          refine ⟨t, x, rfl, hx, fun n => ?_, fun n => ?_⟩
          · simp only [method, Sem.run_bind, run_info w hi, Result.andThen_ok, hfind', hpath, follow, Sem.run_pure, hfunc, receiverAt, run_und w hd]
            cases d <;> first
              | exact (hne _ rfl).elim
              | simp [Place.get]
          · simp only [nilAhead, Sem.run_bind, run_info w hi, Result.andThen_ok, hfind', hpath, followBlind, Sem.run_pure, hfunc, run_und w hd]
            cases d <;> first
              | exact (hne _ rfl).elim
              | simp
        · cases hm
      · cases hm
    · cases hm
  · cases hm

def nilFits (P : Program) : AVal → Bool
  | .func (.conc (.method name)) (recv :: _) _ => (methA P recv name).isSome
  | .ptr _ _ => true
  | .map _ => true
  | .iface _ _ => true
  | .func (.conc (.func _)) _ _ => true
  | .func (.yield _) _ _ => true
  | _ => false

def peek (P : Program) (h : Tr ABlk) (ev : Operand → Option AVal) (op : Op) : Option (List BE × PR) :=
  let v (o : Option AVal) : Option (List BE × PR) := match o with | some x => some ([], .val x) | none => none
  let r (o : Option PR) : Option (List BE × PR) := match o with | some x => some ([], x) | none => none
  match op with
  | .move x => v (ev x)
  | .assign x => v (ev x)
  | .pick c a b => match ev c, ev a, ev b with | some c, some a, some b => v (pkPick c a b) | _, _, _ => none
  | .alloc elem => r (pkAlloc P elem)
  | .box elem x => match ev x with | some x => some ([], .new (.cells elem x.cells true) .ptr) | none => none
  | .build t parts => v (pkBuild P ev t parts)
  | .buildSlice t len parts => r (pkBuildSlice P ev t len parts)
  | .load t a => match ev a with | some a => v (pkLoad P h t a) | none => none
  | .nilCheck x => match ev x with | some x => (match nilFits P x with | true => some ([], .val x) | false => none) | none => none
  | .binOp op t x y _ => match ev x, ev y with
    | some a, some b => match pkBin P op t x y a b with | some (l, z) => some (l, .val z) | none => none
    | _, _ => none
  | .unOp op _ x => match ev x with | some x => v (pkUn op x) | none => none
  | .convert s d x => match ev x with | some x => r (pkConv P h s d x) | none => none
  | .makeInterface t x => match ev x with | some x => v (pkMkIface P t x) | none => none
  | .makeFunc fn first captured => match fnA fn, evL ev first.toList, evL ev captured.toList with | some f, some a, some b => some ([], .val (.func f a b)) | _, _, _ => none
  | .makeMap t none => r (pkMakeMap P t none false)
  | .makeMap t (some x) => match ev x with | some x => r (pkMakeMap P t (some x) true) | none => none
  | .makeSlice t l c => match ev l, ev c with | some l, some c => r (pkMakeSlice P t l c) | _, _ => none
  | .slice t x lo hi mx => match ev x, evO ev lo, evO ev hi, evO ev mx with | some x, some lo, some hi, some mx => v (pkSlice P h t x lo hi mx) | _, _, _, _ => none
  | .fieldAddr s x f => match ev x with | some x => v (pkFieldAddr P s x f) | none => none
  | .field t x f => match ev x with | some x => v (pkField P t x f) | none => none
  | .indexAddr t x i => match ev x, ev i with | some x, some i => v (pkIndexAddr P t x i) | _, _ => none
  | .index t x i => match ev x, ev i with
    | some x, some i => match pkIndex P t x i with | some (l, z) => some (l, .val z) | none => none
    | _, _ => none
  | .lookup t x i ok => match ev x, ev i with | some x, some i => v (pkLookup P h t x i ok) | _, _ => none
  | .range t x => match ev x with | some x => r (pkRange P t x) | none => none
  | .typeAssert x _ t ok => match ev x with | some x => v (pkAssert P x t ok) | none => none
  | .extract x i => match ev x with | some x => v (pkExtract x i) | none => none
  | .call ⟨.builtin .len, args, ts⟩ => match args.toList, ts.toList with
    | [x], [t] => match ev x with | some x => v (pkLen P h t x) | none => none
    | _, _ => none
  | .call ⟨.builtin .cap, args, ts⟩ => match args.toList, ts.toList with
    | [x], [t] => match ev x with | some x => v (pkCap P t x) | none => none
    | _, _ => none
  | .call ⟨.builtin .max, args, _⟩ => match evL ev args.toList with | some l => v (pkExt true l) | none => none
  | .call ⟨.builtin .min, args, _⟩ => match evL ev args.toList with | some l => v (pkExt false l) | none => none
  | .call ⟨.builtin .unsafeSliceData, args, _⟩ => match args.toList with
    | [x] => match ev x with | some x => v (pkSliceData h x) | none => none
    | _ => none
  | _ => none

/-- What an operation as a whole does. -/
def NOk (P : Program) (ρ : Env) (R : Rl) (w : World) (s : Sem Next) : PR → Prop
  | .val v => ∃ u, s.run P w = .ok (.value u) w ∧ VRel ρ R v u
  | .new x mk => ∃ u w' o c, s.run P w = .ok (.value u) w' ∧ w'.heap = w.heap.push o ∧ SameRest w w' ∧
      ∀ id, R.blk id = none → BRel ρ (R.push id w.heap.size c) id x o ∧ VRel ρ (R.push id w.heap.size c) (mk.val id) u

theorem VOk.next {s : Sem Value} {r : PR} (hv : VOk P ρ R w s r) : NOk P ρ R w (do pure (.value (← s))) r := by
  cases r with
  | val v => obtain ⟨u, h1, h2⟩ := hv; exact ⟨u, by simp [h1], h2⟩
  | new x mk => obtain ⟨u, w', o, c, h1, h2, h3, h4⟩ := hv; exact ⟨u, w', o, c, by simp [h1], h2, h3, h4⟩
theorem VOk.pure {u : Value} {v : AVal} (hv : VRel ρ R v u) : NOk P ρ R w (Pure.pure (.value u)) (.val v) := ⟨u, rfl, hv⟩

theorem fnA_ok {f : Fn} {g : AFn} (hf : fnA f = some g) : g.den R f := by
  cases f <;> simp [fnA] at hf <;> subst hf <;> rfl

theorem nil_ok {o : Oper} {σ : Operand → Value} {z : Operand} {x : AVal} (ho : o.op = .nilCheck z) (hx : VRel ρ R x (σ z)) (hn : nilFits P x = true) : (execOp σ o).run P w = .ok (.value (σ z)) w := by
  obtain ⟨dst, op, type, pos, after, guard⟩ := o
  subst ho
  simp only [execOp]
  generalize σ z = u at hx ⊢
  unfold nilFits at hn
  split at hn
  · rename_i name recv rest captured
    obtain ⟨r, hr⟩ := Option.isSome_iff_exists.1 hn
    obtain ⟨f, v⟩ := r
    obtain ⟨g, fs, cs, hg, rfl, hfs, _⟩ := hx
    cases hg
    obtain ⟨q, qs, hq, hrq, _⟩ := hfs
    obtain ⟨t, y, rfl, _, _, hnil⟩ := methA_ok (P := P) (w := w) hrq hr
    have hf0 : fs[0]? = some (.iface t y) := by rw [← Array.getElem?_toList, hq]; rfl
    have hdep : P.types.size + Made.depth = (P.types.size + 99) + 1 := rfl
    simp only [hf0, Sem.run_bind, run_program, Result.andThen_ok, hdep, hnil]
    rfl
  · obtain ⟨b, hb, rfl⟩ := hx; rfl
  · obtain ⟨b, hb, rfl⟩ := hx; rfl
  · obtain ⟨y, rfl, hy⟩ := hx; rfl
  · obtain ⟨g, fs, cs, hg, rfl, _, _⟩ := hx; cases hg; rfl
  · obtain ⟨g, fs, cs, hg, rfl, _, _⟩ := hx; obtain ⟨b, hb, rfl⟩ := hg; rfl
  · cases hn

set_option maxHeartbeats 1000000 in
theorem peek_ok {o : Oper} {ev : Operand → Option AVal} {σ : Operand → Value} {l : List BE} {r : PR} (hh : HeapOk ρ R h w) (he : EvOk ρ R ev σ o.op.operands.toList) (hp : peek P h ev o.op = some (l, r)) (hl : Needs ρ l) :
    NOk P ρ R w (execOp σ o) r := by
  obtain ⟨dst, op, type, pos, after, guard⟩ := o
  simp only at he hp
  have vv : ∀ {q : Option AVal}, (match q with | some x => some (([] : List BE), PR.val x) | none => none) = some (l, r) → ∃ x, q = some x ∧ r = .val x := by
    intro q hq; cases q with
    | none => cases hq
    | some x => cases hq; exact ⟨x, rfl, rfl⟩
  have rr : ∀ {q : Option PR}, (match q with | some x => some (([] : List BE), x) | none => none) = some (l, r) → q = some r := by
    intro q hq; cases q with
    | none => cases hq
    | some x => cases hq; rfl
  have ee : ∀ {x : Operand} {v : AVal}, x ∈ op.operands.toList → ev x = some v → VRel ρ R v (σ x) := fun hx hv => he _ hx _ hv
  unfold peek at hp
  split at hp
  · obtain ⟨x, hx, rfl⟩ := vv hp; exact VOk.pure (ee (by simp [Op.operands]) hx)
  · obtain ⟨x, hx, rfl⟩ := vv hp; exact VOk.pure (ee (by simp [Op.operands]) hx)
  · split at hp
    · rename_i hc ha hb
      obtain ⟨x, hx, rfl⟩ := vv hp
      have := pkPick_ok (P := P) (w := w) (ee (by simp [Op.operands]) hc) (ee (by simp [Op.operands]) ha) (ee (by simp [Op.operands]) hb) hx
      obtain ⟨u, h1, h2⟩ := this
      refine ⟨u, ?_, h2⟩
      simp only [Sem.run_bind, Sem.run_pure] at h1
      simp only [execOp, Sem.run_bind, Sem.run_pure]
      cases hz : (asBool (σ _)).run P w with
      | halt a b => rw [hz] at h1; simp at h1
      | ok a b => rw [hz] at h1; simp only [Result.andThen_ok, Result.ok.injEq] at h1 ⊢; obtain ⟨rfl, rfl⟩ := h1; exact ⟨rfl, rfl⟩
    · cases hp
  · exact VOk.next (pkAlloc_ok (rr hp))
  · split at hp
    · rename_i hx; cases hp; exact VOk.next (pkBox_ok (ee (by simp [Op.operands]) hx))
    · cases hp
  · obtain ⟨x, hx, rfl⟩ := vv hp
    exact VOk.next (pkBuild_ok (σ := σ) (fun y hy v hv => ee (by simpa [Op.operands] using hy) hv) hx)
  · exact VOk.next (pkBuildSlice_ok (σ := σ) (fun y hy v hv => ee (by simpa [Op.operands] using hy) hv) (rr hp))
  · split at hp
    · rename_i ha; obtain ⟨x, hx, rfl⟩ := vv hp; exact VOk.next (pkLoad_ok hh (ee (by simp [Op.operands]) ha) hx)
    · cases hp
  · split at hp
    · rename_i hx
      split at hp
      · rename_i hn
        cases hp
        have hv := ee (by simp [Op.operands]) hx
        exact ⟨_, nil_ok rfl hv hn, hv⟩
      · cases hp
    · cases hp
  · split at hp
    · rename_i ha hb
      split at hp
      · rename_i hq
        cases hp
        exact VOk.next (pkBin_ok (ee (by simp [Op.operands]) ha) (ee (by simp [Op.operands]) hb) hq hl)
      · cases hp
    · cases hp
  · split at hp
    · rename_i ha; obtain ⟨x, hx, rfl⟩ := vv hp; exact VOk.next (pkUn_ok (ee (by simp [Op.operands]) ha) hx)
    · cases hp
  · split at hp
    · rename_i ha; exact VOk.next (pkConv_ok hh (ee (by simp [Op.operands]) ha) (rr hp))
    · cases hp
  · split at hp
    · rename_i ha; obtain ⟨x, hx, rfl⟩ := vv hp; exact VOk.next (pkMkIface_ok (ee (by simp [Op.operands]) ha) hx)
    · cases hp
  · split at hp
    · rename_i hf h1 h2
      cases hp
      refine ⟨_, rfl, _, _, _, fnA_ok hf, rfl, ?_, ?_⟩
      · have := evL_ok (σ := σ) (fun y hy v hv => ee (by simp [Op.operands] at hy ⊢; exact .inl hy) hv) h1; simpa using this
      · have := evL_ok (σ := σ) (fun y hy v hv => ee (by simp [Op.operands] at hy ⊢; exact .inr hy) hv) h2; simpa using this
    · cases hp
  · exact VOk.next (pkMakeMap_ok (u := none) (r := none) (b := false) (by simp) rfl (rr hp))
  · split at hp
    · rename_i x hx
      exact VOk.next (pkMakeMap_ok (u := some (σ _)) (fun v hv => by cases hv; exact ⟨_, rfl, ee (by simp [Op.operands]) hx⟩) rfl (rr hp))
    · cases hp
  · split at hp
    · rename_i ha hb; exact VOk.next (pkMakeSlice_ok (ee (by simp [Op.operands]) ha) (ee (by simp [Op.operands]) hb) (rr hp))
    · cases hp
  · split at hp
    · rename_i hx h1 h2 h3
      obtain ⟨z, hz, rfl⟩ := vv hp
      exact VOk.next (pkSlice_ok hh (ee (by simp [Op.operands]) hx)
        (evO_ok (σ := σ) (fun y hy v hv => ee (by simp at hy; simp [Op.operands, hy]) hv) h1)
        (evO_ok (σ := σ) (fun y hy v hv => ee (by simp at hy; simp [Op.operands, hy]) hv) h2)
        (evO_ok (σ := σ) (fun y hy v hv => ee (by simp at hy; simp [Op.operands, hy]) hv) h3) hz)
    · cases hp
  · split at hp
    · rename_i ha; obtain ⟨x, hx, rfl⟩ := vv hp; exact VOk.next (pkFieldAddr_ok (ee (by simp [Op.operands]) ha) hx)
    · cases hp
  · split at hp
    · rename_i ha; obtain ⟨x, hx, rfl⟩ := vv hp; exact VOk.next (pkField_ok (ee (by simp [Op.operands]) ha) hx)
    · cases hp
  · split at hp
    · rename_i ha hb; obtain ⟨x, hx, rfl⟩ := vv hp; exact VOk.next (pkIndexAddr_ok (ee (by simp [Op.operands]) ha) (ee (by simp [Op.operands]) hb) hx)
    · cases hp
  · split at hp
    · rename_i ha hb
      split at hp
      · rename_i hq
        cases hp
        exact VOk.next (pkIndex_ok (ee (by simp [Op.operands]) ha) (ee (by simp [Op.operands]) hb) hq hl)
      · cases hp
    · cases hp
  · split at hp
    · rename_i ha hb; obtain ⟨x, hx, rfl⟩ := vv hp; exact VOk.next (pkLookup_ok hh (ee (by simp [Op.operands]) ha) (ee (by simp [Op.operands]) hb) hx)
    · cases hp
  · split at hp
    · rename_i ha; exact VOk.next (pkRange_ok (ee (by simp [Op.operands]) ha) (rr hp))
    · cases hp
  · split at hp
    · rename_i ha; obtain ⟨x, hx, rfl⟩ := vv hp; exact VOk.next (pkAssert_ok (ee (by simp [Op.operands]) ha) hx)
    · cases hp
  · split at hp
    · rename_i ha; obtain ⟨x, hx, rfl⟩ := vv hp; exact VOk.next (pkExtract_ok (ee (by simp [Op.operands]) ha) hx)
    · cases hp
  · rename_i args ts
    split at hp
    · rename_i x t h1 h2
      obtain rfl : args = #[x] := by apply Array.ext'; simpa using h1
      obtain rfl : ts = #[t] := by apply Array.ext'; simpa using h2
      split at hp
      · rename_i ha
        obtain ⟨z, hz, rfl⟩ := vv hp
        have e : (#[x] : Array Operand).map σ = #[σ x] := by simp
        have := VOk.next (pkLen_ok (ty := type) hh (ee (by simp [Op.operands, Call.operands]) ha) hz)
        rw [← e] at this; exact this
      · cases hp
    · cases hp
  · rename_i args ts
    split at hp
    · rename_i x t h1 h2
      obtain rfl : args = #[x] := by apply Array.ext'; simpa using h1
      obtain rfl : ts = #[t] := by apply Array.ext'; simpa using h2
      split at hp
      · rename_i ha
        obtain ⟨z, hz, rfl⟩ := vv hp
        have e : (#[x] : Array Operand).map σ = #[σ x] := by simp
        have := VOk.next (w := w) (pkCap_ok (ty := type) (ee (by simp [Op.operands, Call.operands]) ha) hz)
        rw [← e] at this; exact this
      · cases hp
    · cases hp
  · rename_i args ts
    split at hp
    · rename_i xs ha
      obtain ⟨z, hz, rfl⟩ := vv hp
      have hv := evL_ok (σ := σ) (fun y hy v hv => ee (by simp [Op.operands, Call.operands] at hy ⊢; exact hy) hv) ha
      exact VOk.next (pkExt_ok (gt := true) (us := args.map σ) (by simpa using hv) hz)
    · cases hp
  · rename_i args ts
    split at hp
    · rename_i xs ha
      obtain ⟨z, hz, rfl⟩ := vv hp
      have hv := evL_ok (σ := σ) (fun y hy v hv => ee (by simp [Op.operands, Call.operands] at hy ⊢; exact hy) hv) ha
      exact VOk.next (pkExt_ok (gt := false) (us := args.map σ) (by simpa using hv) hz)
    · cases hp
  · rename_i args ts
    split at hp
    · rename_i x h1
      obtain rfl : args = #[x] := by apply Array.ext'; simpa using h1
      split at hp
      · rename_i ha
        obtain ⟨z, hz, rfl⟩ := vv hp
        have e : (#[x] : Array Operand).map σ = #[σ x] := by simp
        have := VOk.next (P := P) (pkSliceData_ok (P := P) (ts := ts) (ty := type) hh (ee (by simp [Op.operands, Call.operands]) ha) hz)
        rw [← e] at this; exact this
      · cases hp
    · cases hp
  · cases hp
end
end Go.Sx
