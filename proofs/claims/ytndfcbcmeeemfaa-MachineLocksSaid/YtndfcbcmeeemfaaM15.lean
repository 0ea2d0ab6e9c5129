/-
  PROCESSES THAT SWAP ONE WORD, ONCE (plain law): the first one that is picked gets it. No program in sight.
-/
import Derived.Test.YtndfcbcmeeemfaaM13
namespace Go.Proofs.Ytndfcbcmeeemfaa.Abs
open Go

def lockI (i : Nat) : Ins := bif Nat.beq i 0 then ⟨3, 0, 5, 0, 0⟩ else ⟨8, 0, 0, 0, 0⟩
def lockP : Prc := ⟨2, lockI, 0, 1, 0, 0, 0, false, 0⟩
theorem may_lock : mayP lockP = true := by decide

/-- Such a process, t steps on; r is what it has. -/
structure LockAt (t : Nat) (r : Int) (p : Prc) : Prop where
  n : p.n = 2
  prog : p.prog = lockI
  at_ : p.at_ = (min t 1 : Nat)
  r0 : p.r0 = r
  done : p.done = Nat.beq t 2
  took : p.took = t
  le : t ≤ 2

theorem lock_start : LockAt 0 1 lockP := ⟨rfl, rfl, rfl, rfl, rfl, rfl, by omega⟩

theorem lock_end {r : Int} {p : Prc} (h : LockAt 2 r p) (m : Nat → Int) : stepP m p = p ∧ stepW m p = m := by
  have hs : stops p = true := by
    unfold stops
    rw [h.done]
    rfl
  unfold stepP stepW
  rw [hs]
  exact ⟨rfl, rfl⟩

theorem lock_one {r : Int} {p : Prc} (h : LockAt 1 r p) (m : Nat → Int) : LockAt 2 r (stepP m p) ∧ stepW m p = m := by
  have hs : stops p = false := by
    unfold stops
    rw [h.done, h.took]
    rfl
  have hat : p.at_ = 1 := by rw [h.at_]; rfl
  have hc : coreP m p = ⟨m, p.r0, p.r1, p.r2, p.r3, p.n⟩ := by
    unfold coreP
    rw [h.prog, hat]
    rfl
  have hnx : ((coreP m p).nx == (p.n : Int)) = true := by
    rw [hc]
    simp
  unfold stepP stepW
  rw [hs]
  simp only [cond_false, hnx, cond_true]
  rw [hc]
  refine ⟨⟨h.n, h.prog, ?_, h.r0, rfl, ?_, by omega⟩, rfl⟩
  · show p.at_ = _
    rw [hat]
    rfl
  · show p.took + 1 = _
    rw [h.took]
    rfl

theorem lock_zero {p : Prc} (h : LockAt 0 1 p) (m : Nat → Int) : LockAt 1 (bif m 5 == 0 then 1 else 0) (stepP m p) ∧ stepW m p 5 = (bif m 5 == 0 then 1 else m 5) := by
  have hs : stops p = false := by
    unfold stops
    rw [h.done, h.took]
    rfl
  have hat : p.at_ = 0 := by rw [h.at_]; rfl
  have hc : coreP m p = Core.set ⟨putW m 5 (casG 0 p.r0 (m 5)).1, p.r0, p.r1, p.r2, p.r3, p.at_ + 1⟩ 0 (casG 0 p.r0 (m 5)).2 := by
    unfold coreP
    rw [h.prog, hat]
    rfl
  have hnx : ((coreP m p).nx == (p.n : Int)) = false := by
    rw [hc]
    show (p.at_ + 1 == (p.n : Int)) = false
    rw [hat, h.n]
    rfl
  unfold stepP stepW
  rw [hs]
  simp only [cond_false, hnx]
  rw [hc]
  refine ⟨⟨h.n, h.prog, ?_, rfl, rfl, ?_, by omega⟩, ?_⟩
  · show p.at_ + 1 = _
    rw [hat]
    rfl
  · show p.took + 1 = _
    rw [h.took]
    rfl
  · show (bif m 5 == 0 then p.r0 else m 5) = _
    rw [h.r0]

/-- Who is picked first; -1: nobody. -/
def fstP (n : Nat) (picks : Nat → Int) : Nat → Int
  | 0 => -1
  | j + 1 => bif decide (fstP n picks j < 0) && (decide (picks j ≥ 0) && decide (picks j < n)) then picks j else fstP n picks j

theorem fstP_range (n : Nat) (picks : Nat → Int) : ∀ j, fstP n picks j = -1 ∨ (0 ≤ fstP n picks j ∧ fstP n picks j < n)
  | 0 => .inl rfl
  | j + 1 => by
    have ih := fstP_range n picks j
    unfold fstP
    cases h : decide (fstP n picks j < 0) && (decide (picks j ≥ 0) && decide (picks j < n)) with
    | false => exact ih
    | true =>
      simp only [Bool.and_eq_true, decide_eq_true_eq] at h
      exact .inr ⟨h.2.1, h.2.2⟩

/-- What lockers come to: who was picked first has the word, nobody else. -/
def LockInv (f : Int) (s : MSt) (n : Nat) : Prop :=
  (∀ i, i < n → ∃ (t : Nat) (r : Int), LockAt t r (s.l i) ∧ (t = 0 → r = 1 ∧ f ≠ (i : Nat)) ∧ (0 < t → 0 ≤ f ∧ r = bif f == (i : Nat) then 1 else 0)) ∧ s.m 5 = (bif decide (f < 0) then 0 else 1)

theorem lock_run (n : Nat) (picks : Nat → Int) : ∀ j, LockInv (fstP n picks j) (runM n ⟨fun _ => 0, fun _ => lockP⟩ picks j) n
  | 0 => ⟨fun i _ => ⟨0, 1, lock_start, fun _ => ⟨rfl, by show (-1 : Int) ≠ _; omega⟩, fun h => absurd h (Nat.lt_irrefl 0)⟩, rfl⟩
  | j + 1 => by
    obtain ⟨ih1, ih2⟩ := lock_run n picks j
    have hr := fstP_range n picks j
    generalize hs : runM n ⟨fun _ => 0, fun _ => lockP⟩ picks j = s at ih1 ih2
    have hrun : runM n ⟨fun _ => 0, fun _ => lockP⟩ picks (j + 1) = pickM n s (picks j) := by rw [← hs]; rfl
    rw [hrun]
    show LockInv (bif decide (fstP n picks j < 0) && (decide (picks j ≥ 0) && decide (picks j < n)) then picks j else fstP n picks j) _ n
    generalize fstP n picks j = f at ih1 ih2 hr
    by_cases hp : 0 ≤ picks j ∧ picks j < n
    · obtain ⟨i, hi⟩ : ∃ i : Nat, picks j = i := ⟨(picks j).toNat, by omega⟩
      have hin : i < n := by omega
      rw [pick_in hp]
      have hpj : (decide (picks j ≥ 0) && decide (picks j < (n : Int))) = true := by
        rw [decide_eq_true (show picks j ≥ 0 from hp.1), decide_eq_true hp.2]
        rfl
      rw [hpj, Bool.and_true, hi]
      have hto : ((i : Nat) : Int).toNat = i := by omega
      rw [hto]
      obtain ⟨t, r, hL, h0, h1⟩ := ih1 i hin
      -- the others
      have others : ∀ f' : Int, (f' = f ∨ (f < 0 ∧ f' = (i : Nat))) → ∀ q, q < n → q ≠ i → ∃ (t : Nat) (r : Int), LockAt t r (bif Nat.beq q i then stepP s.m (s.l i) else s.l q) ∧ (t = 0 → r = 1 ∧ f' ≠ (q : Nat)) ∧ (0 < t → 0 ≤ f' ∧ r = bif f' == (q : Nat) then 1 else 0) := by
        intro f' hf' q hq hqi
        have hb : Nat.beq q i = false := by
          cases hb : Nat.beq q i with
          | false => rfl
          | true => exact absurd (Nat.eq_of_beq_eq_true hb) hqi
        rw [hb]
        obtain ⟨t', r', a1, a2, a3⟩ := ih1 q hq
        refine ⟨t', r', a1, fun h => ⟨(a2 h).1, ?_⟩, fun h => ?_⟩
        · rcases hf' with e | ⟨_, e⟩
          · rw [e]; exact (a2 h).2
          · rw [e]; omega
        · obtain ⟨b1, b2⟩ := a3 h
          rcases hf' with e | ⟨hneg, _⟩
          · rw [e]; exact ⟨b1, b2⟩
          · omega
      have hbi : Nat.beq i i = true := by simp
      match t, hL with
      | 0, hL =>
        obtain ⟨hr1, hfi⟩ := h0 rfl
        subst hr1
        obtain ⟨s1, s2⟩ := lock_zero hL s.m
        by_cases hf : f < 0
        · rw [decide_eq_true hf] at ih2 ⊢
          have hm5 : s.m 5 = 0 := ih2
          rw [hm5] at s1 s2
          refine ⟨fun q hq => ?_, ?_⟩
          · by_cases hqi : q = i
            · subst hqi
              refine ⟨1, 1, by show LockAt _ _ (bif Nat.beq q q then stepP s.m (s.l q) else s.l q); rw [hbi]; exact s1, fun h => by omega, fun _ => ⟨by show (0 : Int) ≤ ((q : Nat) : Int); omega, ?_⟩⟩
              simp
            · exact others _ (.inr ⟨hf, rfl⟩) q hq hqi
          · show stepW s.m (s.l i) 5 = (bif decide ((i : Int) < 0) then 0 else 1)
            rw [s2, decide_eq_false (show ¬ (i : Int) < 0 by omega)]
            rfl
        · rw [decide_eq_false hf] at ih2 ⊢
          have hm5 : s.m 5 = 1 := ih2
          rw [hm5] at s1 s2
          refine ⟨fun q hq => ?_, ?_⟩
          · by_cases hqi : q = i
            · subst hqi
              refine ⟨1, 0, by show LockAt _ _ (bif Nat.beq q q then stepP s.m (s.l q) else s.l q); rw [hbi]; exact s1, fun h => by omega, fun _ => ⟨by show (0 : Int) ≤ f; omega, ?_⟩⟩
              have : (f == (q : Nat)) = false := by rw [beq_eq_false_iff_ne]; exact hfi
              simp [this]
            · exact others _ (.inl rfl) q hq hqi
          · show stepW s.m (s.l i) 5 = (bif decide (f < 0) then 0 else 1)
            rw [s2, decide_eq_false hf]
            rfl
      | 1, hL =>
        obtain ⟨hf0, hre⟩ := h1 (by omega)
        obtain ⟨s1, s2⟩ := lock_one hL s.m
        have hf : ¬ f < 0 := by omega
        rw [decide_eq_false hf] at ih2 ⊢
        refine ⟨fun q hq => ?_, ?_⟩
        · by_cases hqi : q = i
          · subst hqi
            exact ⟨2, r, by show LockAt _ _ (bif Nat.beq q q then stepP s.m (s.l q) else s.l q); rw [hbi]; exact s1, fun h => by omega, fun _ => ⟨hf0, hre⟩⟩
          · exact others _ (.inl rfl) q hq hqi
        · show stepW s.m (s.l i) 5 = (bif decide (f < 0) then 0 else 1)
          rw [s2, decide_eq_false hf]
          exact ih2
      | 2, hL =>
        obtain ⟨hf0, hre⟩ := h1 (by omega)
        obtain ⟨s1, s2⟩ := lock_end hL s.m
        have hf : ¬ f < 0 := by omega
        rw [decide_eq_false hf] at ih2 ⊢
        refine ⟨fun q hq => ?_, ?_⟩
        · by_cases hqi : q = i
          · subst hqi
            exact ⟨2, r, by show LockAt _ _ (bif Nat.beq q q then stepP s.m (s.l q) else s.l q); rw [hbi]; show LockAt _ _ (stepP s.m (s.l q)); rw [s1]; exact hL, fun h => by omega, fun _ => ⟨hf0, hre⟩⟩
          · exact others _ (.inl rfl) q hq hqi
        · show stepW s.m (s.l i) 5 = (bif decide (f < 0) then 0 else 1)
          rw [s2, decide_eq_false hf]
          exact ih2
      | t + 3, hL => exact absurd hL.le (by omega)
    · have hb : (decide (picks j ≥ 0) && decide (picks j < (n : Int))) = false := by
        cases hq : decide (picks j ≥ 0) with
        | false => rfl
        | true =>
          have := of_decide_eq_true hq
          exact decide_eq_false (by omega)
      have hout : pickM n s (picks j) = s := by
        refine pick_out ?_
        cases hq : decide (picks j ≥ 0) with
        | false => rfl
        | true =>
          have := of_decide_eq_true hq
          exact decide_eq_false (by omega)
      rw [hout, hb, Bool.and_false]
      exact ⟨ih1, ih2⟩

/-- Of each, whether it has the word. -/
theorem lock_has {f : Int} {s : MSt} {n i : Nat} (h : LockInv f s n) (hi : i < n) : (bif decide ((s.l i).took > 0) then ((s.l i).r0 == 1) else false) = (f == (i : Nat)) := by
  obtain ⟨t, r, hL, h0, h1⟩ := h.1 i hi
  rw [hL.took, hL.r0]
  rcases Nat.eq_zero_or_pos t with ht | ht
  · subst ht
    have : (f == (i : Nat)) = false := by rw [beq_eq_false_iff_ne]; exact (h0 rfl).2
    rw [this]
    rfl
  · obtain ⟨_, hr⟩ := h1 ht
    rw [decide_eq_true (show ((t : Nat) : Int) > 0 by omega), hr]
    cases f == (i : Nat) <;> rfl
end Go.Proofs.Ytndfcbcmeeemfaa.Abs
