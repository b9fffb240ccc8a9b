/-
  A region whose order is open, gone through in the order of its text.
  No condition: laws.
-/
import Derived.Deep.RegionHeld3
import Derived.Laws.Rows
import Derived.Test.YtioclaoooghllaaGreatDoorTh
import Derived.Maps.AppendAt
namespace Go.Sm
open Go
section
variable {P : Program} {ops : Array Oper} {Q : Exit → Act → World → Prop} {md : Region.Mode} {S : World → Prop}
/-- the beginning -/
theorem region_start {id : Nat} {a : Act} {w : World} (n : Nat) (l0 : Array Bool) (hm : P.follows .mixedOrders = true) (hn : ops.size = n) (hl : Array.replicate n false = l0)
    (h : wpAnyH P .any ops Q S n l0 a w.drew) : (Code.region id ops true).wp P Q a w := by
  subst hn hl
  exact wp_region_held hm h
/-- a quiet operation is taken first -/
theorem takeQ (i : Nat) (l' : Array Bool) (d : Option Tmp) {o : Oper} {v : Value} {fuel : Nat} {listed : Array Bool} {a : Act} {w : World} (hi : ops[i]? = some o)
    (hc : (Region.noSelect ops && Region.free md ops listed i && (Region.ready md ops listed).contains i) = true) (hQ : ∀ c a w, Q (.panic c) (a.put o.dst v) w → Q (.panic c) a w)
    (hw : Region.wanted o (yielded ops a.tmps) = true) (hr : ∀ w, S w → (execOp a.eval o).run P w = .ok (.value v) w) (hS : S w) (hl : listed.setIfInBounds i true = l') (hd : o.dst = d)
    (h : wpAnyH P md ops Q S fuel l' (a.put d v) w) : wpAnyH P md ops Q S (fuel + 1) listed a w := by
  simp only [Bool.and_eq_true] at hc
  exact wpAnyH_take hi hc.1.1 hc.1.2 hc.2 hQ (.inl ⟨hw, hr⟩) hS (by rw [hl, hd]; exact h)
/-- one that is not wanted -/
theorem takeN (i : Nat) (l' : Array Bool) (d : Option Tmp) {o : Oper} {fuel : Nat} {listed : Array Bool} {a : Act} {w : World} (hi : ops[i]? = some o)
    (hc : (Region.noSelect ops && Region.free md ops listed i && (Region.ready md ops listed).contains i) = true) (hQ : ∀ c a w, Q (.panic c) (a.put o.dst undef) w → Q (.panic c) a w)
    (hw : Region.wanted o (yielded ops a.tmps) = false) (hS : S w) (hl : listed.setIfInBounds i true = l') (hd : o.dst = d)
    (h : wpAnyH P md ops Q S fuel l' (a.put d undef) w) : wpAnyH P md ops Q S (fuel + 1) listed a w := by
  simp only [Bool.and_eq_true] at hc
  exact wpAnyH_take hi hc.1.1 hc.1.2 hc.2 hQ (.inr ⟨hw, rfl⟩) hS (by rw [hl, hd]; exact h)
/-- the one that may come up -/
theorem takeE (i : Nat) (l' : Array Bool) (d : Option Tmp) {o : Oper} {fuel : Nat} {listed : Array Bool} {a : Act} {w : World} (hr : Region.ready md ops listed = [i]) (hi : ops[i]? = some o) (hw : Region.wanted o (yielded ops a.tmps) = true) (hl : listed.setIfInBounds i true = l') (hd : o.dst = d)
    (h : ∀ K : Act → World → Prop, (∀ v w', S w' → wpAnyH P md ops Q S fuel l' (a.put d v) w' → K (a.put o.dst v) w') → o.wp P a w K Q) : wpAnyH P md ops Q S (fuel + 1) listed a w := by
  refine wpAnyH_ready hr (by simp) (AllReadyH.cons hi (fun K' hK => ?_) AllReadyH.nil)
  rw [if_pos hw]
  exact h K' fun v w' hS hW => hK.out _ w' hS fun _ => by rw [hl, hd]; exact hW
/-- two that may come up, in either order: they come to the same -/
theorem take2 (i j : Nat) (li lj l' : Array Bool) (di dj : Option Tmp) {oi oj : Oper} {vi vj : Value} {fuel : Nat} {listed : Array Bool} {a : Act} {w w' : World} (hr : Region.ready md ops listed = [i, j])
    (hoi : ops[i]? = some oi) (hoj : ops[j]? = some oj) (hwi : Region.wanted oi (yielded ops a.tmps) = true) (hwj : Region.wanted oj (yielded ops a.tmps) = true) (hwi' : Region.wanted oi (yielded ops (a.put dj vj).tmps) = true) (hwj' : Region.wanted oj (yielded ops (a.put di vi).tmps) = true)
    (hli : listed.setIfInBounds i true = li) (hlj : listed.setIfInBounds j true = lj) (hdi : oi.dst = di) (hdj : oj.dst = dj) (hri : Region.ready md ops li = [j]) (hrj : Region.ready md ops lj = [i])
    (hl1 : li.setIfInBounds j true = l') (hl2 : lj.setIfInBounds i true = l')
    (h1 : (execOp a.eval oi).run P w = .ok (.value vi) w) (h2 : (execOp (a.put di vi).eval oj).run P w = .ok (.value vj) w') (h3 : (execOp a.eval oj).run P w = .ok (.value vj) w') (h4 : (execOp (a.put dj vj).eval oi).run P w' = .ok (.value vi) w')
    (hcomm : (a.put dj vj).put di vi = (a.put di vi).put dj vj) (hS : S w) (hS' : S w') (h : wpAnyH P md ops Q S fuel l' ((a.put di vi).put dj vj) w') : wpAnyH P md ops Q S (fuel + 2) listed a w := by
  subst hli hlj hdi hdj
  refine wpAnyH_ready hr (by simp) (AllReadyH.cons hoi (fun K' hK => ?_) (AllReadyH.cons hoj (fun K' hK => ?_) AllReadyH.nil))
  · rw [if_pos hwi]
    simp only [Oper.wp, h1, Oper.upon]
    refine hK.out _ _ hS fun _ => ?_
    refine wpAnyH_ready hri (by simp) (AllReadyH.cons hoj (fun K' hK => ?_) AllReadyH.nil)
    rw [if_pos hwj']
    simp only [Oper.wp, h2, Oper.upon]
    exact hK.out _ _ hS' fun _ => by rw [hl1]; exact h
  · rw [if_pos hwj]
    simp only [Oper.wp, h3, Oper.upon]
    refine hK.out _ _ hS' fun _ => ?_
    refine wpAnyH_ready hrj (by simp) (AllReadyH.cons hoi (fun K' hK => ?_) AllReadyH.nil)
    rw [if_pos hwi']
    simp only [Oper.wp, h4, Oper.upon]
    exact hK.out _ _ hS' fun _ => by rw [hl2, hcomm]; exact h
/-- a whole variable of several cells is read -/
theorem exec_load_row {o : Oper} {a : Act} {w : World} (ty : TypeId) (x : Operand) (ho : o.op = .load ty x) (g : Nat) (hx : a.eval x = .pointer (some ⟨g, 0, none⟩)) (t : TypeId) (cs : Array Value) (fr : Nat × Nat) (d : TypeDesc)
    (hg : w.heap[g]? = some (.cells cs t fr)) (hu : P.underlying ty = some d) (hd : (match d with | .struct _ | .array _ _ => true | _ => false) = true) (hi : (P.info? ty).map (·.size) = some cs.size) :
    (execOp a.eval o).run P w = .ok (.value (.agg cs)) w := by
  unfold execOp
  simp only [ho, hx, Instr.loadAt, Instr.sureAddr, Sem.run_bind, Sem.run_pure, Result.andThen_ok, run_loadVar_row w g t ty cs fr d hg hu hd hi]
variable {k0 t e : TypeId} {b n : Nat} {f : List UInt8 → Option Value} {o : Oper} {a : Act} {w : World} {K : Act → World → Prop}
theorem exec_lookup_T (m x : Operand) (hop : o.op = Op.lookup t m x false) (h : TMap P k0 w b n f) (hk : P.underlying k0 = some .string) (ht : P.underlying t = some (.map k0 e)) {z : Value} (hz : (zeroValue e).run P w = .ok z w)
    (k : List UInt8) (hl : k.length ≤ maxLen) (v : Value) (hv : (f k).getD z = v) (hm : a.eval m = .map (some b)) (hx : a.eval x = .string ⟨k.toArray⟩) : (execOp a.eval o).run P w = .ok (.value v) w := by
  simp [execOp, hop, hm, hx, h.lookup hk ht hz hl, Result.andThen, hv]
theorem wp_append_own_at (s x : Operand) (t : TypeId) (ho : o.op = .call { callee := .builtin .append, args := #[s, x], argTypes := #[t, t] })
    (base : Nat) (e : TypeId) (i : TypeInfo) (z : Value) (size bytes : Nat) (ht : P.underlying t = some (.slice e)) (hi : P.info? e = some i) (hz : i.zero = some z)
    (hsize : i.size = size) (hby : i.bytes = bytes) (hzs : z.cells.size = size) (hsz : 0 < size)
    (v : Value) (n : Nat) (xs : List Value) (hs : a.eval s = v) (hown : w.ownsRow base e size v n xs)
    (ad : Addr) (m c : Nat) (news : List Value) (hx : a.eval x = .slice (some ad) m c) (hl : news.length = m * size) (hnews : ∀ j u, news[j]? = some u → w.cell? (ad.add j) = some u) (h1 : ∀ u ∈ news, u.oneCell' = true)
    (h63 : n + m ≤ maxLen) (hbytes : (n + m) * bytes ≤ 140737488355328) (hbase : base ≤ w.heap.size)
    (h : ∀ v' w', w'.ownsRow base e size v' (n + m) (xs ++ news) → w.grownBy w' v.ownBlock → (v' = .slice none 0 0 ↔ v = .slice none 0 0 ∧ m = 0) → (v'.ownBlock = v.ownBlock ∨ v'.ownBlock = some w.heap.size) → K (a.put o.dst v') w') :
    o.wp P a w K Q := by
  obtain ⟨v', w', hr, h2, h3, h4, h5⟩ := run_append_own_at (P := P) w base t o.type e i z size bytes ht hi hz hsize hby hzs hsz v n xs hown ad m c news hl hnews h1 h63 hbytes hbase
  unfold Oper.wp execOp
  simp only [ho, resolve, invoke, builtin, Sem.run_bind, Sem.run_pure, Result.andThen_ok, List.map_toArray, List.map_cons, List.map_nil, hs, hx, hr]
  exact h v' w' h2 h3 h4 h5
theorem wp_lookup_T (m x : Operand) (hop : o.op = Op.lookup t m x false) (h : TMap P k0 w b n f) (hk : P.underlying k0 = some .string) (ht : P.underlying t = some (.map k0 e)) {z : Value} (hz : (zeroValue e).run P w = .ok z w)
    (k : List UInt8) (hl : k.length ≤ maxLen) (v : Value) (hv : (f k).getD z = v) (hm : a.eval m = .map (some b)) (hx : a.eval x = .string ⟨k.toArray⟩) (hK : K (a.put o.dst v) w) : o.wp P a w K Q := by
  unfold Oper.wp
  simp [execOp, hop, hm, hx, h.lookup hk ht hz hl, Result.andThen, hv]
  exact hK
theorem wp_update_T (m x v : Operand) (hop : o.op = Op.mapUpdate t m x v) (h : TMap P k0 w b n f) (hk : P.underlying k0 = some .string) (ht : P.underlying t = some (.map k0 e)) (hn : n < maxLen)
    (k : List UInt8) (hl : k.length ≤ maxLen) (val : Value) (hm : a.eval m = .map (some b)) (hx : a.eval x = .string ⟨k.toArray⟩) (hv : a.eval v = val)
    (hK : ∀ w', TMap P k0 w' b (n + 1) (fun k' => if k' = k then some val else f k') → w.grownBy w' (some b) → K (a.put o.dst undef) w') : o.wp P a w K Q := by
  obtain ⟨w', hrun, r1, r2⟩ := h.update hk ht hn hl val
  unfold Oper.wp
  simp [execOp, hop, hm, hx, hv, hrun, Result.andThen]
  exact hK w' r1 r2
end
end Go.Sm
