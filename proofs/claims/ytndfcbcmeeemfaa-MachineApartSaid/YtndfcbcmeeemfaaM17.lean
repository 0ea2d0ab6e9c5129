/-
  A PROCESS WITH A WORD OF ITS OWN (plain law): whatever adders are picked between, it comes to the same. No program in sight.
-/
import Derived.Test.YtndfcbcmeeemfaaM14
namespace Go.Proofs.Ytndfcbcmeeemfaa.Abs
open Go

def Core1 (c c' : Core) : Prop := c.r0 = c'.r0 ∧ c.r1 = c'.r1 ∧ c.r2 = c'.r2 ∧ c.r3 = c'.r3 ∧ c.nx = c'.nx ∧ c.m 1 = c'.m 1

theorem core_at1 {m m' : Nat → Int} {r0 r1 r2 r3 pat : Int} {n : Nat} {I : Ins} (hI : I.at_ = 1) (hm : m 1 = m' 1) : Core1 (coreM m r0 r1 r2 r3 pat n I) (coreM m' r0 r1 r2 r3 pat n I) := by
  obtain ⟨kd, rg, at_, a, b⟩ := I
  have hI : at_ = 1 := hI
  subst hI
  have e : m (Int.toNat 1) = m' (Int.toNat 1) := hm
  have hp : ∀ v, putW m 1 v 1 = putW m' 1 v 1 := fun v => rfl
  unfold coreM
  simp only [e]
  cases kd == 1 with
  | true => exact ⟨rfl, rfl, rfl, rfl, rfl, hm⟩
  | false => cases kd == 2 with
    | true => exact ⟨rfl, rfl, rfl, rfl, rfl, rfl⟩
    | false => cases kd == 3 with
      | true => exact ⟨rfl, rfl, rfl, rfl, rfl, rfl⟩
      | false => cases kd == 4 with
        | true => exact ⟨rfl, rfl, rfl, rfl, rfl, rfl⟩
        | false => cases kd == 5 with
          | true => exact ⟨rfl, rfl, rfl, rfl, rfl, hm⟩
          | false => cases kd == 6 with
            | true => exact ⟨rfl, rfl, rfl, rfl, rfl, hm⟩
            | false => cases kd == 7 with
              | true => exact ⟨rfl, rfl, rfl, rfl, rfl, hm⟩
              | false => exact ⟨rfl, rfl, rfl, rfl, rfl, hm⟩

theorem step_at1 {m m' : Nat → Int} {p : Prc} (hp : mayP p = true) (h1 : ∀ i, i < p.n → (p.prog i).at_ = 1) (hm : m 1 = m' 1) : stepP m p = stepP m' p ∧ stepW m p 1 = stepW m' p 1 := by
  obtain ⟨_, _, h3, h4, _⟩ := may_facts hp
  obtain ⟨c0, c1, c2, c3, c4, c5⟩ : Core1 (coreP m p) (coreP m' p) := core_at1 (h1 p.at_.toNat (by omega)) hm
  unfold stepP stepW
  cases stops p with
  | true => exact ⟨rfl, hm⟩
  | false =>
    simp only [cond_false]
    rw [c0, c1, c2, c3, c4]
    exact ⟨rfl, c5⟩

theorem step_prog (m : Nat → Int) (p : Prc) : (stepP m p).prog = p.prog := by
  unfold stepP
  cases stops p <;> rfl

/-- An adder at another word. -/
def Other (p : Prc) : Prop := ∃ (at_ : Int) (k t : Nat), AddAt at_ k t p ∧ 2 ≤ at_ ∧ k ≤ 1000000
theorem other_step {p : Prc} (h : Other p) (m : Nat → Int) : Other (stepP m p) ∧ stepW m p 1 = m 1 := by
  obtain ⟨at_, k, t, hA, h2, hk⟩ := h
  rcases Nat.lt_or_ge t (k + 1) with ht | ht
  · obtain ⟨q1, q2⟩ := add_step hA (by omega) hk m
    refine ⟨⟨at_, k, t + 1, q1, h2, hk⟩, ?_⟩
    rw [q2]
    cases Nat.blt t k with
    | false => rfl
    | true =>
      show putW m at_ _ 1 = m 1
      unfold putW
      have : Nat.beq 1 at_.toNat = false := by
        cases hb : Nat.beq 1 at_.toNat with
        | false => rfl
        | true => have := Nat.eq_of_beq_eq_true hb; omega
      rw [this]
      rfl
  · have hle := hA.le
    obtain rfl : t = k + 1 := by omega
    obtain ⟨q1, q2⟩ := add_end hA m
    rw [q1, q2]
    exact ⟨⟨at_, k, k + 1, hA, h2, hk⟩, rfl⟩

theorem apart_run {n : Nat} {l : Nat → Prc} (picks : Nat → Int) (hn : 1 ≤ n) (h0 : mayP (l 0) = true) (h1 : ∀ i, i < (l 0).n → ((l 0).prog i).at_ = 1) (ho : ∀ i, 1 ≤ i → i < n → Other (l i)) : ∀ j,
    (runM n ⟨fun _ => 0, l⟩ picks j).l 0 = (runM 1 ⟨fun _ => 0, l⟩ (fun _ => 0) (cnt picks 0 j)).l 0 ∧ (runM n ⟨fun _ => 0, l⟩ picks j).m 1 = (runM 1 ⟨fun _ => 0, l⟩ (fun _ => 0) (cnt picks 0 j)).m 1 ∧
    mayP ((runM n ⟨fun _ => 0, l⟩ picks j).l 0) = true ∧ (∀ i, i < ((runM n ⟨fun _ => 0, l⟩ picks j).l 0).n → (((runM n ⟨fun _ => 0, l⟩ picks j).l 0).prog i).at_ = 1) ∧ ∀ i, 1 ≤ i → i < n → Other ((runM n ⟨fun _ => 0, l⟩ picks j).l i)
  | 0 => ⟨rfl, rfl, h0, h1, ho⟩
  | j + 1 => by
    obtain ⟨i1, i2, i3, i4, i5⟩ := apart_run picks hn h0 h1 ho j
    generalize hs : runM n ⟨fun _ => 0, l⟩ picks j = s at i1 i2 i3 i4 i5
    have hrun : runM n ⟨fun _ => 0, l⟩ picks (j + 1) = pickM n s (picks j) := by rw [← hs]; rfl
    rw [hrun]
    by_cases hp : 0 ≤ picks j ∧ picks j < n
    · obtain ⟨i, hi⟩ : ∃ i : Nat, picks j = i := ⟨(picks j).toNat, by omega⟩
      have hin : i < n := by omega
      rw [pick_in hp, hi]
      have hto : ((i : Nat) : Int).toNat = i := by omega
      rw [hto]
      rcases Nat.eq_zero_or_pos i with hz | hz
      · subst hz
        have hc : cnt picks 0 (j + 1) = cnt picks 0 j + 1 := by simp [cnt, hi]
        rw [hc]
        generalize hs' : runM 1 ⟨fun _ => 0, l⟩ (fun _ => 0) (cnt picks 0 j) = s' at i1 i2
        have hrun' : runM 1 ⟨fun _ => 0, l⟩ (fun _ => 0) (cnt picks 0 j + 1) = pickM 1 s' 0 := by rw [← hs']; rfl
        rw [hrun', pick_in (n := 1) (k := 0) ⟨by omega, by omega⟩]
        obtain ⟨q1, q2⟩ := step_at1 i3 i4 i2
        refine ⟨?_, ?_, ?_, ?_, fun q hq1 hq2 => ?_⟩
        · show stepP s.m (s.l 0) = stepP s'.m (s'.l 0)
          rw [q1, i1]
        · show stepW s.m (s.l 0) 1 = stepW s'.m (s'.l 0) 1
          rw [q2, i1]
        · exact may_step i3
        · show ∀ i, i < (stepP s.m (s.l 0)).n → ((stepP s.m (s.l 0)).prog i).at_ = 1
          rw [step_n, step_prog]
          exact i4
        · show Other (bif Nat.beq q 0 then _ else s.l q)
          have : Nat.beq q 0 = false := by
            cases hb : Nat.beq q 0 with
            | false => rfl
            | true => have := Nat.eq_of_beq_eq_true hb; omega
          rw [this]
          exact i5 q hq1 hq2
      · have hc : cnt picks 0 (j + 1) = cnt picks 0 j := by
          have : ((i : Int) == ((0 : Nat) : Int)) = false := by rw [beq_eq_false_iff_ne]; omega
          simp only [cnt, hi, this, cond_false, Nat.add_zero]
        rw [hc]
        obtain ⟨q1, q2⟩ := other_step (i5 i hz hin) s.m
        have hb0 : Nat.beq 0 i = false := by
          cases hb : Nat.beq 0 i with
          | false => rfl
          | true => have := Nat.eq_of_beq_eq_true hb; omega
        have e0 : (bif Nat.beq 0 i then stepP s.m (s.l i) else s.l 0) = s.l 0 := by rw [hb0]; rfl
        refine ⟨?_, ?_, ?_, ?_, fun q hq1 hq2 => ?_⟩
        · show (bif Nat.beq 0 i then stepP s.m (s.l i) else s.l 0) = _
          rw [e0]; exact i1
        · show stepW s.m (s.l i) 1 = _
          rw [q2]; exact i2
        · show mayP (bif Nat.beq 0 i then stepP s.m (s.l i) else s.l 0) = true
          rw [e0]; exact i3
        · show ∀ k, k < (bif Nat.beq 0 i then stepP s.m (s.l i) else s.l 0).n → ((bif Nat.beq 0 i then stepP s.m (s.l i) else s.l 0).prog k).at_ = 1
          rw [e0]; exact i4
        · show Other (bif Nat.beq q i then stepP s.m (s.l i) else s.l q)
          cases hb : Nat.beq q i with
          | false => exact i5 q hq1 hq2
          | true => exact q1
    · have hout : pickM n s (picks j) = s := by
        refine pick_out ?_
        cases hq : decide (picks j ≥ 0) with
        | false => rfl
        | true =>
          have := of_decide_eq_true hq
          exact decide_eq_false (by omega)
      have hc : cnt picks 0 (j + 1) = cnt picks 0 j := by
        have : (picks j == ((0 : Nat) : Int)) = false := by rw [beq_eq_false_iff_ne]; omega
        simp only [cnt, this, cond_false, Nat.add_zero]
      rw [hout, hc]
      exact ⟨i1, i2, i3, i4, i5⟩
end Go.Proofs.Ytndfcbcmeeemfaa.Abs
