/-
  slices.Sorted(maps.Keys(m)) by the shelf's contracts: KeysOk.
  Conditions: the shelf's layings, slices.Sort's two contracts.
-/
import Derived.Test.YtioclaoooghllaaGreatDoorSxV
import Derived.Shelf.SlIter.Nil
import Derived.Shelf.SlIter.Sorted
import Derived.Sort.Walk0
namespace Go.Sx
open Go.RowKit Go.Maps Go.Sort Go.Shelf Go.Proofs

theorem insL_perm (x : List UInt8) (l : List (List UInt8)) : (insL x l).Perm (x :: l) := by
  induction l with
  | nil => exact .refl _
  | cons y l ih =>
    unfold insL
    split
    · exact .refl _
    · exact (ih.cons y).trans (.swap x y l)
theorem sortL_perm : ∀ (l : List (List UInt8)), (sortL l).Perm l
  | [] => .refl _
  | x :: l => (insL_perm x _).trans ((sortL_perm l).cons x)
theorem insL_sorted (x : List UInt8) (l : List (List UInt8)) (h : l.Pairwise (· ≤ ·)) : (insL x l).Pairwise (· ≤ ·) := by
  induction l with
  | nil => simp [insL]
  | cons y l ih =>
    have hq := List.pairwise_cons.1 h
    unfold insL
    split
    · rename_i hlt
      rw [ltL_eq, bytesLess_eq, decide_eq_true_eq] at hlt
      refine List.pairwise_cons.2 ⟨fun z hz => ?_, h⟩
      rcases List.mem_cons.1 hz with rfl | hz
      · exact List.le_of_lt hlt
      · exact List.le_trans (List.le_of_lt hlt) (hq.1 z hz)
    · rename_i hlt
      rw [ltL_eq, bytesLess_eq, decide_eq_false_iff_not] at hlt
      refine List.pairwise_cons.2 ⟨fun z hz => ?_, ih hq.2⟩
      rcases List.mem_cons.1 ((insL_perm x l).mem_iff.1 hz) with rfl | hz
      · exact List.not_lt.1 hlt
      · exact hq.1 z hz
theorem sortL_sorted : ∀ (l : List (List UInt8)), (sortL l).Pairwise (· ≤ ·)
  | [] => .nil
  | x :: l => insL_sorted x _ (sortL_sorted l)
theorem mergeSort_sortL {ss ks : List (List UInt8)} (h : ss.Perm ks) : (ss.mergeSort fun x y => decide (x ≤ y)) = sortL ks := by
  refine List.Perm.eq_of_pairwise (le := fun a b => leB a b = true) (fun a b _ _ h1 h2 => ?_) (List.pairwise_mergeSort (fun a b c h1 h2 => ?_) (fun a b => ?_) ss) ((sortL_sorted ks).imp fun h => by simpa [leB] using h) (((List.mergeSort_perm ss _).trans h).trans (sortL_perm ks).symm)
  · simp only [leB, decide_eq_true_eq] at h1 h2
    exact List.le_antisymm h1 h2
  · simp only [decide_eq_true_eq] at *; exact List.le_trans h1 h2
  · simp only [Bool.or_eq_true, decide_eq_true_eq]; exact List.le_total a b

variable {P : Program}

/-- A map whose keys are strings: owned, whatever its values are. -/
theorem owns_strs {e : TypeId} (he : P.underlying e = some .string) {W : World} {b : Nat} {a : Array MapEntry} {clk : Nat} {ks : List (List UInt8)} (hb : W.heap[b]? = some (.map a clk)) (hst : MapKept.Stamped a clk)
    (hk : a.toList.map (·.key) = ks.map (fun k => .string ⟨k.toArray⟩)) (hl : ks.length ≤ 1000000) (hs : ∀ k ∈ ks, k.length ≤ 1000000) :
    ∃ D0 : DataW Unit, W.ownsMap P e (fun _ => some (.lit (.bool true), [])) b a.size D0 ∧ (strKeys D0).Perm ks ∧ Maps.size D0 ≤ ks.length := by
  have hlen : a.size = ks.length := by simpa using congrArg List.length hk
  have hkey : ∀ x ∈ a.toList, ∃ k ∈ ks, x.key = .string ⟨k.toArray⟩ ∧ keyOf P e x.key = some (.string k) := by
    intro x hx
    have : x.key ∈ ks.map (fun k => Value.string ⟨k.toArray⟩) := hk ▸ List.mem_map_of_mem hx
    obtain ⟨k, hk1, hk2⟩ := List.mem_map.1 this
    refine ⟨k, hk1, hk2.symm, ?_⟩
    have := hs k hk1
    have hm : (⟨k.toArray⟩ : ByteArray).size ≤ maxLen := by
      show k.toArray.size ≤ maxLen
      simp [maxLen] at *; omega
    rw [← hk2]
    simp [keyOf, he, mapKey]
    exact hm
  have hrd : ∀ x ∈ a.toList, ∃ k ∈ ks, x.key = .string ⟨k.toArray⟩ ∧ WideElems.rd (H := Unit) P e (fun _ => some (.lit (.bool true), [])) x = some (.string k, .lit (.bool true)) := by
    intro x hx
    obtain ⟨k, h1, h2, h3⟩ := hkey x hx
    exact ⟨k, h1, h2, by simp [WideElems.rd, h3]⟩
  refine ⟨_, ⟨a, clk, hb, ⟨by rw [hlen]; simp [maxLen]; omega, hst, fun x hx => ?_⟩, Nat.le_refl _, rfl⟩, ?_, ?_⟩
  · obtain ⟨k, _, _, h⟩ := hrd x hx
    exact ⟨_, h⟩
  · have h1 : (a.toList.map fun x => Go.strOf (WideElems.rg (H := Unit) P e (fun _ => some (.lit (.bool true), [])) x).1) = ks := by
      have h2 : (a.toList.map fun x => Go.strOf (WideElems.rg (H := Unit) P e (fun _ => some (.lit (.bool true), [])) x).1) = a.toList.map fun x => (match x.key with | .string s => s.data.toList | _ => []) := by
        refine List.map_congr_left fun x hx => ?_
        obtain ⟨k, _, h2, h3⟩ := hrd x hx
        rw [WideElems.rg_of h3, h2]; rfl
      rw [h2]
      have : (a.toList.map (·.key)).map (fun v => (match v with | .string s => s.data.toList | _ => [] : List UInt8)) = ks := by
        rw [hk, List.map_map]
        exact (List.map_congr_left fun k _ => by simp).trans (List.map_id _)
      rw [List.map_map] at this
      exact this
    rw [← h1]
    refine ((Go.WideShapes.sorted_perm _).map _).trans ?_
    rw [List.map_map]
    exact .refl _
  · show (List.length _) ≤ _
    rw [(Go.WideShapes.sorted_perm _).length_eq]
    simp [hlen]

theorem keysOk_of {ρ σ : Ren} (LK : SlLaysZ.n10 P ρ) (LS : SlLaysZ.n6 P σ) (hsort : AnyZ.SortsIn P σ Fence.wide 4) (e9 : ∀ args w, (callFunc (σ.f 9) args).run P w = .ok (.enter (σ.f 9) args) w)
    (eg : ∀ args w, (callFunc (ρ.f 10) args).run P w = .ok (.enter (ρ.f 10) args) w) (he : P.underlying (ρ.t 26) = some .string) {f : FuncId} {e : TypeId} {g : FuncId} (hf : f = σ.f 6) (hg : g = ρ.f 10) (hte : e = ρ.t 26) (hte' : e = σ.t 26) : KeysOk P f e g := by
  subst hf hg
  intro W bp b ty fr a clk ks hbp hb hst hk hl hs
  obtain ⟨D0, hown, hperm, hsz⟩ := owns_strs (hte ▸ he) hb hst hk hl hs
  have hlt : bp < W.heap.size := (Array.getElem?_eq_some_iff.1 hbp).1
  have hseq : SeqGives Fence.wide 2 P (ρ.f 10) #[.pointer (some ⟨bp, 0, none⟩)] encStr (fun ss => ss.Perm (strKeys D0)) (Maps.size D0) W :=
    AnyZ.keys_gives LK Fence.wide _ trivial rfl (by omega) bp b _ D0 W hlt (by simp [World.cell?, hbp]) (hte ▸ hown)
  have hC := AnyZ.sorted_in LS Fence.wide 5 trivial trivial trivial trivial rfl (by omega) hsort e9 (ρ.f 10) #[.pointer (some ⟨bp, 0, none⟩)] trivial eg _ _ (by simp [maxLen] at *; omega) (by omega) W hseq
  refine Calls.mono ((callsIn_wide (n := 5)).1 hC) ?_
  rintro x w' ⟨v, ss, rfl, hS, hrow, hnil, hbl⟩
  have hp := hS.trans hperm
  refine ⟨v, rfl, hbl, ?_⟩
  rw [mergeSort_sortL hp] at hrow
  rcases hrow.2 with ⟨rfl, _⟩ | ⟨gb, cap, cur, rfl, hbase, hgb, r1, r2, r3, r4⟩
  · have : ss = [] := hnil.1 rfl
    subst this
    exact .inl ⟨List.nil_perm.1 hp, rfl⟩
  · have hne : ks ≠ [] := by
      intro h0
      subst h0
      have := List.perm_nil.1 hp
      have := hnil.2 this
      cases this
    refine .inr ⟨gb, cur, hne, ?_, hbase, hte' ▸ hgb, cur.toList.drop ss.length, ?_⟩
    · have : cur.size = cap := by omega
      rw [this, hp.length_eq]
    · rw [Nat.mul_one] at r4
      have := List.take_append_drop ss.length cur.toList
      rw [r4] at this
      exact this.symm
end Go.Sx
