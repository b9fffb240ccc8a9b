/-
  Seat a: the keys of a tally's map, in order (maps.Keys, slices.Sorted).
  No condition.
-/
import Derived.Test.YtioclaoooghllaaGreatDoorTi
import Derived.Test.YtioclaoooghllaaGreatDoorTp
import Derived.Test.YtioclaoooghllaaGreatDoorSxW
import Derived.Shelf.Abstract
import Derived.Shelf.RegionOpen
import Derived.TacticsInMore
import Derived.LoopNIn
import Derived.LoopIn
import Derived.Test.YtioclaoooghllaaGreatDoorTj
namespace Go.Sm
open Go Go.RowKit Go.Maps
/-- ks: the keys of f, each once, in order -/
structure IsKeys (f : List UInt8 → Option Value) (ks : List (List UInt8)) : Prop where
  sorted : ks.Pairwise (· < ·)
  mem : ∀ k, k ∈ ks ↔ (f k).isSome = true
theorem IsKeys.nodup {f : List UInt8 → Option Value} {ks : List (List UInt8)} (h : IsKeys f ks) : ks.Nodup :=
  h.sorted.imp fun hab e => by subst e; exact List.lt_irrefl _ hab
variable {P : Program} {k0 : TypeId} {w : World} {b n : Nat} {f : List UInt8 → Option Value}
theorem TMap.keys (h : TMap P k0 w b n f) (hk : P.underlying k0 = some .string) :
    ∃ D : DataW Value, w.ownsMap P k0 hd b n D ∧ (strKeys D).Nodup ∧ (∀ x, x ∈ strKeys D ↔ (f x).isSome = true) ∧ (∀ x ∈ strKeys D, x.length ≤ maxLen) ∧ Maps.size D = (strKeys D).length ∧ Maps.size D ≤ n := by
  obtain ⟨D, h1, h2⟩ := h
  have hmem : ∀ x, x ∈ strKeys D ↔ (f x).isSome = true := by
    intro x
    rw [← TMap.has h1 h2 x]
    obtain ⟨es, hD', hko⟩ := h1.keysOf
    subst hD'
    rw [has_eq, List.any_eq_true]
    show x ∈ es.map (fun p => Go.strOf p.1) ↔ _
    rw [List.mem_map]
    constructor
    · rintro ⟨p, hp', rfl⟩
      obtain ⟨v, hv⟩ := hko p hp'
      obtain ⟨y, _, ha, _⟩ := Maps.keyOf_str hk hv
      exact ⟨p, hp', by rw [ha]; simp [Lit.sameKey, Go.strOf]⟩
    · rintro ⟨p, hp', hs⟩
      obtain ⟨v, hv⟩ := hko p hp'
      obtain ⟨y, _, ha, _⟩ := Maps.keyOf_str hk hv
      rw [ha] at hs
      exact ⟨p, hp', by rw [ha]; simpa [Lit.sameKey, Go.strOf] using hs⟩
  refine ⟨D, h1, ?_, hmem, strKeys_le h1 hk, ?_, h1.size_le⟩
  · obtain ⟨es, hD, hpw, _⟩ := h1.entries (string_keyed hk)
    obtain ⟨es', hD', hko⟩ := h1.keysOf
    obtain rfl : es = es' := by rw [hD] at hD'; simpa using hD'
    subst hD
    show (es.map fun p => Go.strOf p.1).Nodup
    refine List.pairwise_map.2 (hpw.imp_of_mem fun {p q} hp' hq' hne e => hne ?_)
    obtain ⟨v, hv⟩ := hko p hp'
    obtain ⟨u, hu⟩ := hko q hq'
    obtain ⟨a, _, ha, _⟩ := Maps.keyOf_str hk hv
    obtain ⟨b, _, hb, _⟩ := Maps.keyOf_str hk hu
    rw [ha, hb] at e ⊢
    exact congrArg _ e
  · obtain ⟨es, rfl, _⟩ := h1.keysOf
    simp [Maps.size, strKeys]
theorem TMap.isKeys (h : TMap P k0 w b n f) (hk : P.underlying k0 = some .string) : ∃ ks, IsKeys f ks ∧ ks.length ≤ n ∧ ∀ k ∈ ks, k.length ≤ maxLen := by
  obtain ⟨D, h1, h2, h3, h4, h5, h6⟩ := h.keys hk
  have hp := Go.Sx.sortL_perm (strKeys D)
  refine ⟨Go.Sx.sortL (strKeys D), ⟨?_, fun k => by rw [hp.mem_iff, h3]⟩, by rw [hp.length_eq]; omega, fun k hk => h4 k (hp.mem_iff.1 hk)⟩
  have hn : (Go.Sx.sortL (strKeys D)).Pairwise (· ≠ ·) := (hp.nodup_iff.2 h2)
  exact ((Go.Sx.sortL_sorted (strKeys D)).and hn).imp fun ⟨h1, h2⟩ => by
    exact Classical.byContradiction fun h => h2 (List.le_antisymm h1 (List.not_lt.1 h))
theorem IsKeys.perm {D : DataW Value} {ks : List (List UInt8)} (h : IsKeys f ks) (hn : (strKeys D).Nodup) (hm : ∀ x, x ∈ strKeys D ↔ (f x).isSome = true) : (strKeys D).Perm ks :=
  (List.perm_ext_iff_of_nodup hn h.nodup).2 fun x => by rw [hm, h.mem]
theorem IsKeys.sort {ss ks : List (List UInt8)} (h : IsKeys f ks) (hp : ss.Perm ks) : (ss.mergeSort fun x y => decide (x ≤ y)) = ks := by
  refine (Go.Sx.mergeSort_sortL hp).trans ?_
  refine List.Perm.eq_of_pairwise (le := (· ≤ ·)) (fun a b _ _ h1 h2 => List.le_antisymm h1 h2) (Go.Sx.sortL_sorted ks) (h.sorted.imp fun h => List.le_of_lt h) (Go.Sx.sortL_perm ks)
theorem IsKeys.le {ks : List (List UInt8)} (h : IsKeys f ks) (hM : TMap P k0 w b n f) (hk : P.underlying k0 = some .string) : ks.length ≤ n := by
  obtain ⟨D, h1, h2, h3, h4, h5, h6⟩ := hM.keys hk
  rw [← (h.perm h2 h3).length_eq]; omega
theorem TMap.len (h : TMap P k0 w b n f) (hk : P.underlying k0 = some .string) {t e : TypeId} (ht : P.underlying t = some (.map k0 e)) {ks : List (List UInt8)} (hks : ks.Nodup) (hm : ∀ x, x ∈ ks ↔ (f x).isSome = true) (ty : TypeId) :
    (Builtin.len_ #[t] ty #[.map (some b)]).run P w = .ok (.int .i64 (ks.length : Int)) w := by
  obtain ⟨D, h1, h2, h3, h4, h5, h6⟩ := h.keys hk
  rw [h1.len ht, h5, ((List.perm_ext_iff_of_nodup h2 hks).2 fun x => by rw [h3, hm]).length_eq]
end Go.Sm
namespace Go.Proofs.Tryz
open Go Go.Sx Go.Sm Go.RowKit Go.Maps Go.Sort Go.Shelf
theorem sorted_keys (bp b n : Nat) (f : List UInt8 → Option Value) (ks : List (List UInt8)) (W : World) (hbp : W.cell? ⟨bp, 0, none⟩ = some (.map (some b))) (hM : TMap Tryz.prog 9 W b n f) (hks : IsKeys f ks) (hn : n ≤ 1000000) :
    Calls Tryz.prog 37 #[.func (.func 50) #[] #[.pointer (some ⟨bp, 0, none⟩)]] W fun e w' => ∃ v, e = .returned v ∧ w'.ownsRow W.heap.size 9 1 v ks.length (ks.map encStr) ∧ Below W.heap.size W w' := by
  obtain ⟨D0, hown, h2, h3, h4, h5, h6⟩ := hM.keys Tryz.underlying9
  have hlt : bp < W.heap.size := World.block_lt_of_cell? W _ hbp
  have hseq : SeqGives Fence.wide 2 Tryz.prog 50 #[.pointer (some ⟨bp, 0, none⟩)] encStr (fun ss => ss.Perm (strKeys D0)) (Maps.size D0) W :=
    AnyZ.keys_gives (ρ := Tryz.keys38_ren) { Tryz.keys38 with } Fence.wide _ trivial rfl (by omega) bp b _ D0 W hlt hbp hown
  have hC := AnyZ.sorted_in (ρ := Tryz.sorted37_ren) Tryz.sorted37 Fence.wide 5 trivial trivial trivial trivial rfl (by omega) (Tryz.sorts37 _) (enters_of Tryz.func49 (by kernel_rfl) rfl) 50 #[.pointer (some ⟨bp, 0, none⟩)] trivial (enters_of Tryz.func50 (by kernel_rfl) rfl) _ _ (by simp [maxLen]; omega) (by omega) W hseq
  refine Calls.mono ((callsIn_wide (n := 5)).1 hC) ?_
  rintro x w' ⟨v, ss, rfl, hS, hrow, hnil, hbl⟩
  have hp := hS.trans (hks.perm h2 h3)
  rw [hks.sort hp, hp.length_eq] at hrow
  exact ⟨v, rfl, hrow, hbl⟩
theorem keys_38 (mb : Option Nat) (W : World) : Calls Tryz.prog 38 #[.map mb] W fun e w' => e = .returned (.func (.func 50) #[] #[.pointer (some ⟨W.heap.size, 0, none⟩)]) ∧ w' = W.alloc (.cells #[.map mb] 50) :=
  (callsIn_wide (n := 5)).1 (AnyZ.keys_in (ρ := Tryz.keys38_ren) Tryz.keys38 Fence.wide 5 trivial rfl mb W)
end Go.Proofs.Tryz
namespace Go.Proofs.Tryz
open Go Go.Sx Go.Sm Go.RowKit Go.Maps Go.Sort Go.Shelf
attribute [local go_sem] Oper.semAt_some wide_depth wide_fn
/-- the tally at S: its map is block M -/
structure Tally (W : World) (S M n : Nat) (f : List UInt8 → Option Value) : Prop where
  cell : W.cell? ⟨S, 0, none⟩ = some (.map (some M))
  map : TMap Tryz.prog 9 W M n f
theorem Tally.but {Ms : Nat → Prop} {A B : World} {S M n : Nat} {f : List UInt8 → Option Value} (h : Tally A S M n f) (hb : But Ms A B) (hS : ¬ Ms S) (hM : ¬ Ms M) : Tally B S M n f :=
  ⟨hb.cell h.cell hS, h.map.block (hb.block _ h.map.lt hM)⟩
abbrev encK (k : List UInt8) : Array Value := #[.string ⟨k.toArray⟩]
set_option maxRecDepth 100000 in
set_option maxHeartbeats 2000000 in
theorem keys1_runs (c S M n : Nat) (f : List UInt8 → Option Value) (ks : List (List UInt8)) (hks : IsKeys f ks) (hn : n ≤ 1000000) :
    Runs Tryz.prog 36 #[.pointer (some ⟨c, 0, none⟩)] encK (fun _ W => W.cell? ⟨c, 0, none⟩ = some (.pointer (some ⟨S, 0, none⟩)) ∧ Tally W S M n f) ks := by
  rintro l Ms J W ⟨hc, hS, hM⟩ hMs hJ hY h0
  have hsk := Lib.hid (sorted_keys W.heap.size M n f ks (W.alloc (.cells #[.map (some M)] 50)) (by simp) (hM.kept (World.grownBy_alloc W _ none) (by simp)) hks hn)
  have hlen0 := hks.le hM Tryz.underlying9
  clear hM hks
  refine callsIn_of_wp Tryz.func36 rfl trivial ?_ rfl
  simp only [Tryz.ntmps36, List.size_toArray, List.length_cons, List.length_nil, Nat.reduceAdd, Nat.reduceSub, Array.replicate_succ, Array.replicate_zero, List.push_toArray, List.append_toArray, List.nil_append, List.cons_append]
  gi_wp2_with (first
    | (gi_at_call 38; refine (callsIn_wide.2 (keys_38 _ _)).mono ?_; rintro e w' ⟨rfl, rfl⟩)
    | (gi_at_call 37; refine (callsIn_wide.2 hsk.out).mono ?_; rintro e w' ⟨v, rfl, hrow, hbl⟩; rcases hrow.2 with ⟨rfl, hz⟩ | ⟨g, cap, cur, rfl, hbase, hg, r1, r2, r3, r4⟩; all_goals (have hrow := Lib.hid hrow)))
  · have hb2 : RowKit.Below W.heap.size W w' := ((RowKit.Below.refl _ W).alloc (Nat.le_refl _) _).trans (hbl.mono (by simp))
    have hnil : ks = [] := List.eq_nil_of_length_eq_zero hz
    subst hnil
    have hJ2 := hJ _ _ _ h0 hb2
    gi_wp2
    gi_loopw [14] (fun p wr => p = .int .i64 0 ∧ wr = w') (fun _ _ => 0)
    case atStart => exact ⟨rfl, rfl⟩
    case round =>
      obtain ⟨rfl, rfl⟩ := hrel
      gi_wp2
      go_end0
      exact ⟨⟨_, rfl⟩, hJ2, .of_below hb2 (Nat.le_refl _)⟩
  · have hb2 : RowKit.Below W.heap.size W w' := ((RowKit.Below.refl _ W).alloc (Nat.le_refl _) _).trans (hbl.mono (by simp))
    have hlen := hrow.out.1
    have hJ2 := hJ _ _ _ h0 hb2
    have hgW : W.heap.size ≤ g := by simp at hbase; omega
    have hcell : ∀ i, (hi : i < ks.length) → w'.cell? ⟨g, i, none⟩ = some (.string ⟨(ks[i]).toArray⟩) := fun i hi => by
      have h1 := congrArg (fun l => l[i]?) r4
      simp [hi] at h1
      simp [World.cell?, hg, h1, encStr]
    have hkl : ks.length ≤ 1000000 := Nat.le_trans hlen0 hn
    have Hl := Lib.hid hlen
    have Hr4 := Lib.hid r4
    have Hr3 := Lib.hid r3
    have Hc := Lib.hid hcell
    clear hlen r4 r3 hcell
    gi_wp2
    gi_loopw [14] (fun p wr => ∃ i : Nat, p = .int .i64 i ∧ i ≤ ks.length ∧ J (ks.take i) wr ∧ But Ms W wr ∧ ∀ i, (hi : i < ks.length) → wr.cell? ⟨g, i, none⟩ = some (.string ⟨(ks[i]).toArray⟩)) (fun p _ => ks.length - (intOf p).toNat)
    case atStart => exact ⟨0, rfl, Nat.zero_le _, by simpa using hJ2, .of_below hb2 (Nat.le_refl _), Hc.out⟩
    case round =>
      obtain ⟨i, rfl, hi, hJs, hbw, hcs⟩ := hrel
      by_cases hlt : i < ks.length
      · have hsplit : ks = ks.take i ++ ks[i] :: ks.drop (i + 1) := by rw [List.getElem_cons_drop, List.take_append_drop]
        obtain ⟨fn, tmps, assign, body, hy, hR⟩ := hY _ ks[i] _ wr hsplit hJs hbw
        have hci := hcs i hlt
        have Hcs := Lib.hid hcs
        have Hs := Lib.hid hsplit
        clear hcs hsplit
        simp only [encK] at hy
        generalize hx : ks[i] = x at hci hy hR
        have Hx := Lib.hid hx
        clear hx
        gi_wp2
        refine hR.mono ?_
        rintro e W3 ⟨rfl, hJ3, hk3⟩
        gi_wp2
        go_roundw
        case rel =>
          refine ⟨i + 1, by simp, by omega, ?_, hbw.trans hk3, fun j hj => hk3.cell (Hcs.out j hj) (fun h => ?_)⟩
          · rw [List.take_succ_eq_append_getElem hlt, Hx.out]; exact hJ3
          · have := hMs _ h; simp at this; omega
        case measure => simp [intOf]; omega
      · obtain rfl : i = ks.length := by omega
        gi_wp2
        go_end0
        exact ⟨⟨_, rfl⟩, by simpa using hJs, hbw⟩
end Go.Proofs.Tryz
