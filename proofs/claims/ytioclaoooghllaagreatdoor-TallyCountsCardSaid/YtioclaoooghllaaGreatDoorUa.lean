/-
  Seat a: the keys of an empty tally of ints.
  No condition.
-/
import Derived.Test.YtioclaoooghllaaGreatDoorLay
import Derived.Shelf.SlIterI.Nil
import Derived.Test.YtioclaoooghllaaGreatDoorTu
import Derived.Test.YtioclaoooghllaaGreatDoorTw
namespace Go.Proofs
open Go.RowKit Go.Maps Go.Sort Go.Shelf Go.Sx
theorem Tryz.sorts33 (m : Nat) : AnyZI.SortsIn Tryz.prog Tryz.sorted33_ren Fence.wide m :=
  ⟨fun blk off cap ss W hH hblk hsz => callsIn_wide.2 (AnyM.slices_Sort_int Tryz.sort46 blk off cap ss W hH hblk hsz),
   fun p cap W => callsIn_wide.2 (AnyM.slices_Sort_int_none Tryz.sort46 p cap W)⟩
end Go.Proofs
namespace Go.Proofs.Tryz
open Go Go.Sx Go.Sm Go.RowKit Go.Maps Go.Sort Go.Shelf
theorem new_any (w : World) : Calls Tryz.prog 5 #[] w fun e w' => e = .returned (.pointer (some ⟨w.heap.size + 1, 0, none⟩)) ∧ w' = (w.alloc (.map #[] 0)).alloc (.cells #[.map (some w.heap.size)] 52) := by
  have hmm := @run_makeMap Tryz.prog
  go_enter Tryz.func5, Tryz.ntmps5
  go_wp2
  go_ret
  exact ⟨rfl, rfl⟩
theorem new_int (w : World) : Calls Tryz.prog 15 #[] w fun e w' => e = .returned (.pointer (some ⟨w.heap.size + 1, 0, none⟩)) ∧ w' = (w.alloc (.map #[] 0)).alloc (.cells #[.map (some w.heap.size)] 58) := by
  have hmm := @run_makeMap Tryz.prog
  go_enter Tryz.func15, Tryz.ntmps15
  go_wp2
  go_ret
  exact ⟨rfl, rfl⟩
theorem add_nil (w : World) : Calls Tryz.prog 13 #[.pointer none, .int .i64 1, .int .u64 1] w fun e w' => e = .returned (.tuple #[]) ∧ w' = w := by
  go_enter Tryz.func13, Tryz.ntmps13
  go_wp2
  refine bodyPost_ret (results_none rfl _ _ _) rfl ?_
  exact ⟨rfl, rfl⟩
end Go.Proofs.Tryz
namespace Go.Proofs.Tryz
open Go Go.Sx Go.Sm Go.RowKit Go.Maps Go.Sort Go.Shelf
def zeroE : AVal := .agg (List.replicate 69 (AVal.int .u64 (.lit 0)))
theorem ofnil_run : exec Tryz.prog 6 (primOf .nil) 1000 (.call 18 [.nilPtr, .int .i64 (.lit 1)] ⟨.nil, 6⟩ fun v _ => .done v) = .done zeroE := by kernel_rfl
theorem of_nil (w : World) : Calls Tryz.prog 18 #[.pointer none, .int .i64 1] w fun e w' => e = .returned (rowV fun _ => 0) ∧ RowKit.Below w.heap.size w w' := by
  obtain ⟨ρ, hρ⟩ : ∃ ρ : Env, ρ = ⟨fun _ => 0, fun _ => false, fun _ => default⟩ := ⟨_, rfl⟩
  have hus : ∀ R, VRels ρ R [.nilPtr, .int .i64 (.lit 1)] (#[.pointer none, .int .i64 1] : Array Value).toList := fun R => by
    simp [VRels, VRel, IE.den]
  have h2 := calls_of_exec (ρ := ρ) (G := 6) (prim := primOf .nil) (args := [.nilPtr, .int .i64 (.lit 1)]) (us := #[.pointer none, .int .i64 1]) mixed plain primNil 1000 Tryz.func18 rfl hus (Q := fun v => v = zeroE)
  refine (h2 ?_ w).mono ?_
  · rw [ofnil_run]; exact rfl
  · rintro e w' ⟨⟨u, R, v, rfl, rfl, hr⟩, hb⟩
    refine ⟨?_, hb⟩
    have hz : zeroE = .agg ((List.replicate 69 (IE.lit 0)).map (.int .u64)) := by simp [zeroE]
    rw [hz] at hr
    rw [VRel_agg_ints.1 hr]
    rfl
end Go.Proofs.Tryz
namespace Go.Proofs.Tryz
open Go Go.Sx Go.Sm Go.RowKit Go.Maps Go.Sort Go.Shelf
attribute [local go_sem] Oper.semAt_some wide_depth wide_fn
theorem keys_34 (mb : Option Nat) (W : World) : Calls Tryz.prog 34 #[.map mb] W fun e w' => e = .returned (.func (.func 47) #[] #[.pointer (some ⟨W.heap.size, 0, none⟩)]) ∧ w' = W.alloc (.cells #[.map mb] 56) :=
  (callsIn_wide (n := 5)).1 (AnyZI.keys_in (ρ := Tryz.keys34_ren) Tryz.keys34 Fence.wide 5 trivial rfl mb W)
theorem sorted_none (bp b : Nat) (W : World) (hbp : W.cell? ⟨bp, 0, none⟩ = some (.map (some b))) (hb : W.heap[b]? = some (.map #[] 0)) :
    Calls Tryz.prog 33 #[.func (.func 47) #[] #[.pointer (some ⟨bp, 0, none⟩)]] W fun e w' => e = .returned (.slice none 0 0) ∧ RowKit.Below W.heap.size W w' := by
  have hlt : bp < W.heap.size := World.block_lt_of_cell? W _ hbp
  have hown : W.ownsMap Tryz.prog 3 hd b 0 (.map []) := ⟨#[], 0, hb, ⟨by simp [maxLen], ⟨by simp, by simp, by simp⟩, by simp⟩, by simp, rfl⟩
  have hseq : SeqGives Fence.wide 2 Tryz.prog 47 #[.pointer (some ⟨bp, 0, none⟩)] encZ (fun ss => ss.Perm (intKeys (.map [] : DataW Value))) (Maps.size (.map [] : DataW Value)) W :=
    AnyZI.keys_gives (ρ := Tryz.keys34_ren) { Tryz.keys34 with } Fence.wide _ trivial rfl (by omega) bp b _ _ W hlt hbp hown
  have hC := AnyZI.sorted_in (ρ := Tryz.sorted33_ren) Tryz.sorted33 Fence.wide 5 trivial trivial trivial trivial rfl (by omega) (Tryz.sorts33 _) (enters_of Tryz.func46 (by kernel_rfl) rfl) 47 #[.pointer (some ⟨bp, 0, none⟩)] trivial (enters_of Tryz.func47 (by kernel_rfl) rfl) _ _ (by simp [Maps.size]) (by simp [Maps.size]) W hseq
  refine Calls.mono ((callsIn_wide (n := 5)).1 hC) ?_
  rintro x w' ⟨v, ss, rfl, hS, hrow, hnil, hbl⟩
  have : ss = [] := List.perm_nil.1 hS
  exact ⟨by rw [hnil.2 this], hbl⟩
end Go.Proofs.Tryz
namespace Go.Proofs.Tryz
open Go Go.Sx Go.Sm Go.RowKit Go.Maps Go.Sort Go.Shelf
attribute [local go_sem] Oper.semAt_some wide_depth wide_fn
/-- nil, or a tally of ints that holds nothing -/
def EmptyI (W : World) (p : Option Addr) : Prop := p = none ∨ ∃ S b, p = some ⟨S, 0, none⟩ ∧ W.cell? ⟨S, 0, none⟩ = some (.map (some b)) ∧ W.heap[b]? = some (.map #[] 0)
theorem EmptyI.below {A B : World} {n : Nat} {p : Option Addr} (h : EmptyI A p) (hb : RowKit.Below n A B) (hn : A.heap.size ≤ n) : EmptyI B p := by
  rcases h with h | ⟨S, b, h1, h2, h3⟩
  · exact .inl h
  · exact .inr ⟨S, b, h1, (hb.cell (p := ⟨S, 0, none⟩) (Nat.lt_of_lt_of_le (World.block_lt_of_cell? A _ h2) hn)).trans h2, (hb.block b (Nat.lt_of_lt_of_le (Array.getElem?_eq_some_iff.1 h3).1 hn)).trans h3⟩
set_option maxRecDepth 100000 in
set_option maxHeartbeats 2000000 in
theorem ikeys1_runs (c : Nat) (p : Option Addr) : Runs (α := Unit) Tryz.prog 32 #[.pointer (some ⟨c, 0, none⟩)] (fun _ => #[undef]) (fun _ W => W.cell? ⟨c, 0, none⟩ = some (.pointer p) ∧ EmptyI W p) [] := by
  rintro l Ms J W ⟨hc, hE⟩ hMs hJ hY h0
  clear hY
  rcases hE with rfl | ⟨S, b, rfl, hS, hb⟩
  · refine callsIn_of_wp Tryz.func32 rfl trivial ?_ rfl
    simp only [Tryz.ntmps32, List.size_toArray, List.length_cons, List.length_nil, Nat.reduceAdd, Nat.reduceSub, Array.replicate_succ, Array.replicate_zero, List.push_toArray, List.append_toArray, List.nil_append, List.cons_append]
    gi_wp2
    refine bodyPost_ret (results_none rfl _ _ _) rfl ?_
    exact ⟨⟨_, rfl⟩, h0, .refl _ _⟩
  · have hbl := (Array.getElem?_eq_some_iff.1 hb).1
    have hsk := Lib.hid (sorted_none W.heap.size b (W.alloc (.cells #[.map (some b)] 56)) (by simp) ((Below.heap_alloc W _ b hbl).trans hb))
    refine callsIn_of_wp Tryz.func32 rfl trivial ?_ rfl
    simp only [Tryz.ntmps32, List.size_toArray, List.length_cons, List.length_nil, Nat.reduceAdd, Nat.reduceSub, Array.replicate_succ, Array.replicate_zero, List.push_toArray, List.append_toArray, List.nil_append, List.cons_append]
    clear hb
    gi_wp2_with (first
      | (gi_at_call 34; refine (callsIn_wide.2 (keys_34 _ _)).mono ?_; rintro e w' ⟨rfl, rfl⟩)
      | (gi_at_call 33; refine (callsIn_wide.2 hsk.out).mono ?_; rintro e w' ⟨rfl, hbl2⟩))
    have hb2 : RowKit.Below W.heap.size W w' := ((RowKit.Below.refl _ W).alloc (Nat.le_refl _) _).trans (hbl2.mono (by simp))
    have hJ2 := hJ _ _ _ h0 hb2
    gi_loopw [14] (fun p wr => p = .int .i64 0 ∧ wr = w') (fun _ _ => 0)
    case atStart => exact ⟨rfl, rfl⟩
    case round =>
      obtain ⟨rfl, rfl⟩ := hrel
      gi_wp2
      go_end0
      exact ⟨⟨_, rfl⟩, hJ2, .of_below hb2 (Nat.le_refl _)⟩
theorem ikeys_any (p : Option Addr) (w : World) : CallsIn Fence.wide 0 Tryz.prog 25 #[.pointer p] w fun e w' => e = .returned (.func (.func 32) #[] #[.pointer (some ⟨w.heap.size, 0, none⟩)]) ∧ w' = w.alloc (.cells #[.pointer p] 40) := by
  refine callsIn_of_wp Tryz.func25 rfl trivial ?_ rfl
  simp only [Tryz.ntmps25, List.size_toArray, List.length_cons, List.length_nil, Nat.reduceAdd, Nat.reduceSub, Array.replicate_succ, Array.replicate_zero, List.push_toArray, List.append_toArray, List.nil_append, List.cons_append]
  gi_wp2
  go_ret
  exact ⟨rfl, rfl⟩
theorem iall_any (p : Option Addr) (w : World) : CallsIn Fence.wide 0 Tryz.prog 16 #[.pointer p] w fun e w' => e = .returned (.func (.func 24) #[] #[.pointer (some ⟨w.heap.size, 0, none⟩)]) ∧ w' = w.alloc (.cells #[.pointer p] 40) := by
  refine callsIn_of_wp Tryz.func16 rfl trivial ?_ rfl
  simp only [Tryz.ntmps16, List.size_toArray, List.length_cons, List.length_nil, Nat.reduceAdd, Nat.reduceSub, Array.replicate_succ, Array.replicate_zero, List.push_toArray, List.append_toArray, List.nil_append, List.cons_append]
  gi_wp2
  go_ret
  exact ⟨rfl, rfl⟩
set_option maxRecDepth 100000 in
set_option maxHeartbeats 4000000 in
theorem iall1_runs (c : Nat) (p : Option Addr) : Runs (α := Unit) Tryz.prog 24 #[.pointer (some ⟨c, 0, none⟩)] (fun _ => #[undef, undef]) (fun _ W => W.cell? ⟨c, 0, none⟩ = some (.pointer p) ∧ EmptyI W p) [] := by
  rintro l Ms J W ⟨hc, hE⟩ hMs hJ hY h0
  clear hY
  refine callsIn_of_wp_marks Tryz.func24 rfl trivial ?_ rfl
  simp only [Tryz.ntmps24, List.size_toArray, List.length_cons, List.length_nil, Nat.reduceAdd, Nat.reduceSub, Array.replicate_succ, Array.replicate_zero, List.push_toArray, List.append_toArray, List.nil_append, List.cons_append]
  have HE := Lib.hid hE
  clear hE
  have hcl := World.block_lt_of_cell? W _ hc
  have hc1 : ∀ o, (W.alloc o).cell? ⟨c, 0, none⟩ = some (.pointer p) := fun o => (World.cell?_of_block (Below.heap_alloc W o c hcl)).trans hc
  gi_wp2_with (gi_at_call 25; refine (ikeys_any _ _).mono ?_; rintro e w' ⟨rfl, rfl⟩)
  obtain ⟨W0, hW0⟩ : ∃ W0, (W.alloc (.cells #[.func (.yield l) #[] #[]] 59)).alloc (.cells #[.pointer p] 40) = W0 := ⟨_, rfl⟩
  have hb0 : RowKit.Below W.heap.size W W0 := by rw [← hW0]; exact ((RowKit.Below.refl _ W).alloc (Nat.le_refl _) _).alloc (by simp) _
  have hs0 : W0.heap.size = W.heap.size + 2 := by rw [← hW0]; simp
  have cp : W0.cell? ⟨W.heap.size + 1, 0, none⟩ = some (.pointer p) := by rw [← hW0]; simp
  rw [hW0]
  have hE0 := HE.out.below hb0 (Nat.le_refl _)
  refine wpIn_rangeFunc_all (α := Unit) (gf := 32) (lb := #[.pointer (some ⟨W.heap.size + 1, 0, none⟩)]) rfl (enters_of Tryz.func32 (by kernel_rfl) rfl) (ikeys1_runs (W.heap.size + 1) p) (fun _ => rfl) Ms (fun k hk => by have := hMs k hk; omega)
    (fun w' hw' => ⟨(hw'.cell (p := ⟨W.heap.size + 1, 0, none⟩) (by simp; omega)).trans cp, hE0.below hw' (Nat.le_refl _)⟩)
    (fun pre W' => pre = [] ∧ J [] W' ∧ RowKit.Below W.heap.size W W')
    (fun s A B hs hab => ⟨hs.1, hJ _ _ _ hs.2.1 (hab.mono (by omega)), hs.2.2.trans (hab.mono (by omega))⟩)
    ⟨rfl, hJ _ _ _ h0 hb0, hb0⟩ ?round ?done
  case round =>
    intro l2 pre x post W1 _ hx
    simp at hx
  case done =>
    rintro W1 ⟨_, hJ1, hbw1⟩ _ hK
    rw [hs0] at hK
    gi_wp2
    refine ⟨by simp, .inl ⟨_, _, rfl, run_takeDeferred hK, ?_⟩⟩
    refine ⟨_, results_none rfl _ _ _, ⟨_, rfl⟩, ?_⟩
    have hbe : RowKit.Below W.heap.size W1 (W1.putObj (W.heap.size + 2) (.deferred none)) := (But.putObj (fun k => k = W.heap.size + 2) W1 (W.heap.size + 2) (.deferred none) rfl).below (fun k h1 h2 => by omega) hbw1.size
    exact ⟨hJ _ _ _ hJ1 hbe, .of_below (hbw1.trans hbe) (Nat.le_refl _)⟩
end Go.Proofs.Tryz
