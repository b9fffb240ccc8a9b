/-
  The abstract executor, part U: what is found to be one, is one.
  No condition: lemmas.
-/
import Derived.Test.YtioclaoooghllaaGreatDoorSxQ
namespace Go.Sx

theorem beq_eq {a b : Nat} (h : Nat.beq a b = true) : a = b := Nat.eq_of_beq_eq_true h

mutual
theorem IE.eqb_ok : ∀ {a b : IE}, a.eqb b = true → a = b
  | .lit a, .lit b, h => by rw [(eqI_iff a b).1 (by simpa [IE.eqb] using h)]
  | .var i, .var j, h => by rw [beq_eq (a := i) (b := j) (by simpa [IE.eqb] using h)]
  | .arith op k a b, .arith op' k' a' b', h => by
    unfold IE.eqb at h
    split at h
    · rename_i h1 h2 h3 h4
      rw [of_decide_eq_true h1, of_decide_eq_true h2, IE.eqb_ok h3, IE.eqb_ok h4]
    · cases h
  | .conv k a, .conv k' a', h => by
    unfold IE.eqb at h
    split at h
    · rename_i h1 h2; rw [of_decide_eq_true h1, IE.eqb_ok h2]
    · cases h
  | .len s, .len s', h => by unfold IE.eqb at h; rw [SE.eqb_ok h]
  | .byte s i, .byte s' i', h => by
    unfold IE.eqb at h
    split at h
    · rename_i h1 h2; rw [SE.eqb_ok h1, IE.eqb_ok h2]
    · cases h
  | .pick c a b, .pick c' a' b', h => by
    unfold IE.eqb at h
    split at h
    · rename_i h1 h2 h3; rw [BE.eqb_ok h1, IE.eqb_ok h2, IE.eqb_ok h3]
    · cases h
theorem BE.eqb_ok : ∀ {a b : BE}, a.eqb b = true → a = b
  | .lit a, .lit b, h => by cases a <;> cases b <;> first | rfl | simp [BE.eqb] at h
  | .var i, .var j, h => by rw [beq_eq (a := i) (b := j) (by simpa [BE.eqb] using h)]
  | .cmp op a b, .cmp op' a' b', h => by
    unfold BE.eqb at h
    split at h
    · rename_i h1 h2 h3; rw [of_decide_eq_true h1, IE.eqb_ok h2, IE.eqb_ok h3]
    · cases h
  | .scmp op a b, .scmp op' a' b', h => by
    unfold BE.eqb at h
    split at h
    · rename_i h1 h2 h3; rw [of_decide_eq_true h1, SE.eqb_ok h2, SE.eqb_ok h3]
    · cases h
  | .not a, .not a', h => by unfold BE.eqb at h; rw [BE.eqb_ok h]
  | .pick c a b, .pick c' a' b', h => by
    unfold BE.eqb at h
    split at h
    · rename_i h1 h2 h3; rw [BE.eqb_ok h1, BE.eqb_ok h2, BE.eqb_ok h3]
    · cases h
theorem SE.eqb_ok : ∀ {a b : SE}, a.eqb b = true → a = b
  | .lit a, .lit b, h => by
    have : eqL a b = true := by simpa [SE.eqb] using h
    rw [eqL_iff] at this; rw [eq_of_beq this]
  | .var i, .var j, h => by rw [beq_eq (a := i) (b := j) (by simpa [SE.eqb] using h)]
  | .cat a b, .cat a' b', h => by
    unfold SE.eqb at h
    split at h
    · rename_i h1 h2; rw [SE.eqb_ok h1, SE.eqb_ok h2]
    · cases h
  | .sub s a b, .sub s' a' b', h => by
    unfold SE.eqb at h
    split at h
    · rename_i h1 h2 h3; rw [SE.eqb_ok h1, IE.eqb_ok h2, IE.eqb_ok h3]
    · cases h
  | .snoc s b, .snoc s' b', h => by
    unfold SE.eqb at h
    split at h
    · rename_i h1 h2; rw [SE.eqb_ok h1, IE.eqb_ok h2]
    · cases h
  | .pick c a b, .pick c' a' b', h => by
    unfold SE.eqb at h
    split at h
    · rename_i h1 h2 h3; rw [BE.eqb_ok h1, SE.eqb_ok h2, SE.eqb_ok h3]
    · cases h
end

theorem ACap.eqb_ok : ∀ {a b : ACap}, a.eqb b = true → a = b
  | .lit _, .lit _, h => by rw [beq_eq h]
  | .own _, .own _, h => by rw [beq_eq h]
theorem AFn.eqb_ok : ∀ {a b : AFn}, a.eqb b = true → a = b
  | .conc _, .conc _, h => by rw [of_decide_eq_true h]
  | .yield _, .yield _, h => by rw [beq_eq h]

mutual
theorem AVal.eqb_ok : ∀ {a b : AVal}, a.eqb b = true → a = b
  | .bool a, .bool b, h => by unfold AVal.eqb at h; rw [BE.eqb_ok h]
  | .int k a, .int k' b, h => by
    unfold AVal.eqb at h
    split at h
    · rename_i h1 h2; rw [of_decide_eq_true h1, IE.eqb_ok h2]
    · cases h
  | .str a, .str b, h => by unfold AVal.eqb at h; rw [SE.eqb_ok h]
  | .nilPtr, .nilPtr, _ => rfl
  | .ptr i o, .ptr i' o', h => by
    unfold AVal.eqb at h
    split at h
    · rename_i h1 h2; rw [beq_eq h1, beq_eq h2]
    · cases h
  | .nilSlice, .nilSlice, _ => rfl
  | .slice i o n c, .slice i' o' n' c', h => by
    unfold AVal.eqb at h
    split at h
    · rename_i h1 h2 h3 h4; rw [beq_eq h1, beq_eq h2, beq_eq h3, ACap.eqb_ok h4]
    · cases h
  | .slice0, .slice0, _ => rfl
  | .nilMap, .nilMap, _ => rfl
  | .map i, .map j, h => by unfold AVal.eqb at h; rw [beq_eq h]
  | .func f a b, .func f' a' b', h => by
    unfold AVal.eqb at h
    split at h
    · rename_i h1 h2 h3; rw [AFn.eqb_ok h1, eqbs_ok h2, eqbs_ok h3]
    · cases h
  | .nilFunc, .nilFunc, _ => rfl
  | .iface t v, .iface t' v', h => by
    unfold AVal.eqb at h
    split at h
    · rename_i h1 h2; rw [beq_eq h1, AVal.eqb_ok h2]
    · cases h
  | .nilIface, .nilIface, _ => rfl
  | .agg a, .agg b, h => by unfold AVal.eqb at h; rw [eqbs_ok h]
  | .tuple a, .tuple b, h => by unfold AVal.eqb at h; rw [eqbs_ok h]
theorem eqbs_ok : ∀ {a b : List AVal}, eqbs a b = true → a = b
  | [], [], _ => rfl
  | a :: x, b :: y, h => by
    unfold eqbs at h
    split at h
    · rename_i h1 h2; rw [AVal.eqb_ok h1, eqbs_ok h2]
    · cases h
end

theorem NK.eqb_ok : ∀ {a b : NK}, a.eqb b = true → a = b
  | .ptr, .ptr, _ => rfl
  | .map, .map, _ => rfl
  | .slice n c, .slice n' c', h => by
    simp only [NK.eqb] at h
    split at h
    · rename_i h1 h2; rw [beq_eq h1, ACap.eqb_ok h2]
    · cases h
theorem ABlk.eqb_ok : ∀ {a b : ABlk}, a.eqb b = true → a = b := by
  intro a b h
  unfold ABlk.eqb at h
  split at h
  · split at h
    · rename_i h1 h2 ; rw [beq_eq h1, eqbs_ok h2]
    · cases h
  · split at h
    · rename_i h1 h2 h3; rw [beq_eq h1, eqbs_ok h2, beq_eq h3]
    · cases h
  · rfl
  · split at h
    · rename_i h1 h2; rw [SE.eqb_ok h1, beq_eq h2]
    · cases h
  · cases h
theorem PR.eqb_ok : ∀ {a b : PR}, a.eqb b = true → a = b
  | .val _, .val _, h => by simp only [PR.eqb] at h; rw [AVal.eqb_ok h]
  | .new _ _, .new _ _, h => by
    simp only [PR.eqb] at h
    split at h
    · rename_i h1 h2; rw [ABlk.eqb_ok h1, NK.eqb_ok h2]
    · cases h
end Go.Sx
