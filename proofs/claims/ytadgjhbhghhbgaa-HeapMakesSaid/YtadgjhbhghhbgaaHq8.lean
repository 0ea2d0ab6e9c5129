/-
  PLAIN LAW: rows of items in order.
-/
import Derived.Test.YtadgjhbhghhbgaaHq7
namespace Go.Proofs.Ytadgjhbhghhbgaa.Abs
open Go

def Sorted (s : Sl Item) : Prop := ∀ i j, i < j → j < s.n → leI (s.at_ i) (s.at_ j)
theorem sorted_toL {s : Sl Item} (h : Sorted s) : (toL s).Pairwise leI := by
  rw [List.pairwise_iff_getElem]
  intro i j hi hj hij
  rw [toL_len] at hi hj
  have g1 : (toL s)[i]'(by rw [toL_len]; exact hi) = s.at_ i := Option.some.inj ((List.getElem?_eq_getElem _).symm.trans (toL_get s hi))
  have g2 : (toL s)[j]'(by rw [toL_len]; exact hj) = s.at_ j := Option.some.inj ((List.getElem?_eq_getElem _).symm.trans (toL_get s hj))
  rw [g1, g2]
  exact h i j hij hj
theorem cutW_facts (s : Sl Item) (x : Item) : cutW s x ≤ s.n ∧ (∀ k, k < cutW s x → lessI (s.at_ k) x = true) ∧ (cutW s x < s.n → lessI (s.at_ (cutW s x)) x = false) := by
  rcases idx_cases (fun i => !lessI (s.at_ i) x) s.n with ⟨h1, h2⟩ | ⟨i, h1, h2, h3, h4⟩
  · have hb : ∀ k, k < s.n → lessI (s.at_ k) x = true := fun k hk => by simpa using h2 k hk
    have e : cutW s x = s.n := cutW_eq (Nat.le_refl _) hb fun h => absurd h (Nat.lt_irrefl _)
    rw [e]
    exact ⟨Nat.le_refl _, hb, fun h => absurd h (Nat.lt_irrefl _)⟩
  · have hb : ∀ k, k < i → lessI (s.at_ k) x = true := fun k hk => by simpa using h4 k hk
    have hg : lessI (s.at_ i) x = false := by simpa using h3
    have e : cutW s x = i := cutW_eq (by omega) hb fun _ => hg
    rw [e]
    exact ⟨by omega, hb, fun _ => hg⟩
theorem with_sorted {s : Sl Item} {x : Item} (h : Sorted s) : Sorted (withI s x) := by
  obtain ⟨h1, h2, h3⟩ := cutW_facts s x
  intro i j hij hj
  have hj : j < s.n + 1 := hj
  show leI (bif Nat.blt i (cutW s x) then s.at_ i else bif Nat.beq i (cutW s x) then x else s.at_ (i - 1)) (bif Nat.blt j (cutW s x) then s.at_ j else bif Nat.beq j (cutW s x) then x else s.at_ (j - 1))
  generalize hc : cutW s x = c at *
  have hx : ∀ k, c ≤ k → k < s.n → leI x (s.at_ k) := fun k hk1 hk2 => by
    have hxc : leI x (s.at_ c) := h3 (by omega)
    rcases Nat.lt_or_ge c k with hl | hl
    · exact leI_trans hxc (h c k hl hk2)
    · obtain rfl : k = c := by omega
      exact hxc
  rcases Nat.lt_trichotomy i c with hi | hi | hi
  · rw [blt_t hi]
    rcases Nat.lt_trichotomy j c with hjc | hjc | hjc
    · rw [blt_t hjc]
      exact h i j hij (by omega)
    · subst hjc
      rw [blt_f (Nat.le_refl _), Nat.beq_refl]
      exact less_asymm (h2 i hi)
    · rw [blt_f (by omega : c ≤ j), beq_f (by omega : j ≠ c)]
      exact h i (j - 1) (by omega) (by omega)
  · subst hi
    rw [blt_f (Nat.le_refl _), Nat.beq_refl, blt_f (by omega : i ≤ j), beq_f (by omega : j ≠ i)]
    exact hx (j - 1) (by omega) (by omega)
  · rw [blt_f (by omega : c ≤ i), beq_f (by omega : i ≠ c), blt_f (by omega : c ≤ j), beq_f (by omega : j ≠ c)]
    exact h (i - 1) (j - 1) (by omega) (by omega)
theorem nd0_well : wellB nd0 = true := by decide
theorem same_ok {s t : Sl Item} (h : toL s = toL t) : sameI s t = true := by
  have hn : s.n = t.n := by rw [← toL_len, h, toL_len]
  unfold sameI
  rw [hn]
  have e : ((t.n : Int) != (t.n : Int)) = false := by simp
  rw [e]
  have e2 : anyB (fun i => !itEq (s.at_ i) (t.at_ i)) t.n = false := anyB_false.2 fun i hi => by
    have h1 := toL_get s (hn ▸ hi)
    have h2 := toL_get t hi
    rw [h] at h1
    rw [h1] at h2
    have : itEq (s.at_ i) (t.at_ i) = true := itEq_iff.2 (Option.some.inj h2)
    rw [this]
    rfl
  rw [e2]
  rfl
end Go.Proofs.Ytadgjhbhghhbgaa.Abs
