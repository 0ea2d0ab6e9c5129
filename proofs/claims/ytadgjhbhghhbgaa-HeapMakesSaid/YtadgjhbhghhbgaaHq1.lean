/-
  PLAIN LAW: references and arenas of package arena, without a program in sight.
-/
import Derived.Test.YtadgjhbhghhbgaaHp11
namespace Go.Proofs.Ytadgjhbhghhbgaa.Abs
open Go

/-- A node's reference. -/
def refI (p : Nat) (g : Int) : Int := 65536 * g + p + 1
theorem refI_pos {p : Nat} {g : Int} (hg : 0 ≤ g) : 0 < refI p g := by
  unfold refI
  omega
theorem refI_mod {p : Nat} {g : Int} (hp : p < 512) (hg : 0 ≤ g) : (refI p g).tmod 65536 = p + 1 ∧ (refI p g).tdiv 65536 = g := by
  have h := refI_pos (p := p) hg
  rw [Int.tmod_eq_emod_of_nonneg (by omega), Int.tdiv_eq_ediv_of_nonneg (by omega)]
  unfold refI
  omega
theorem refI_ok {p : Nat} {g : Int} (hp : p < 512) (hg : 0 ≤ g) (hg2 : g ≤ 1048576) : refOk (refI p g) = true ∧ plOf (refI p g) = p ∧ gnOf (refI p g) = g := by
  obtain ⟨h1, h2⟩ := refI_mod hp hg
  have h0 : (refI p g == 0) = false := by
    have := refI_pos (p := p) hg
    simp
    omega
  have h3 : refOk (refI p g) = true := by
    unfold refOk
    rw [h0, h1, h2, u64_small hg (by omega)]
    have e1 : decide ((p : Int) + 1 ≥ 1) = true := decide_eq_true (by omega)
    have e2 : decide ((p : Int) + 1 ≤ 512) = true := decide_eq_true (by omega)
    have e3 : decide (g ≤ 1048576) = true := decide_eq_true hg2
    rw [e1, e2, e3]
    rfl
  have h4 : noRef (refI p g) = false := by
    unfold noRef
    rw [h0, h3]
    rfl
  refine ⟨h3, ?_, ?_⟩
  · unfold plOf
    rw [h4, h1, i64_small (x := (p : Int) + 1) (by omega) (by omega)]
    show IntKind.i64.wrap ((p : Int) + 1 - 1) = p
    rw [i64_small (by omega) (by omega)]
    omega
  · unfold gnOf
    rw [h4, h2, u64_small hg (by omega)]
    show IntKind.i64.wrap g = g
    exact i64_small hg (by omega)
theorem ofR_eq {p : Nat} {g : Int} (hp : p < 512) (hg : 0 ≤ g) (hg2 : g ≤ 1048576) : ofR p g = refI p g := by
  unfold ofR badOf
  have e1 : decide ((p : Int) < 0) = false := decide_eq_false (by omega)
  have e2 : decide ((p : Int) ≥ 512) = false := decide_eq_false (by omega)
  have e3 : decide (g < 0) = false := decide_eq_false (by omega)
  have e4 : decide (g > 1048576) = false := decide_eq_false (by omega)
  rw [e1, e2, e3, e4]
  show IntKind.u64.wrap (IntKind.i64.wrap (IntKind.i64.wrap (IntKind.i64.wrap (g * 65536) + p) + 1)) = _
  rw [i64_small (x := g * 65536) (by omega) (by omega), i64_small (x := g * 65536 + p) (by omega) (by omega), i64_small (x := g * 65536 + p + 1) (by omega) (by omega), u64_small (by omega) (by omega)]
  unfold refI
  omega
theorem pl_zero : plOf 0 = -1 := rfl
theorem refOk_zero : refOk 0 = true := rfl

/-- Which arenas may be. -/
structure RightP (a : Ar) : Prop where
  one : 1 ≤ a.nodes.n
  max : a.nodes.n ≤ 512
  frn : a.free.n ≤ a.nodes.n
  fr : ∀ i, i < a.free.n → 0 ≤ a.free.at_ i ∧ a.free.at_ i < a.nodes.n
  inj : ∀ i j, i < j → j < a.free.n → a.free.at_ i ≠ a.free.at_ j
  well : ∀ q, q < a.nodes.n → wellB (a.nodes.at_ q) = true
  kind : ∀ q, q < a.nodes.n → ((a.nodes.at_ q).kind = 0 ↔ ∃ i, i < a.free.n ∧ a.free.at_ i = q)
  bare : ∀ q, q < a.nodes.n → (a.nodes.at_ q).kind = 0 → bare (a.nodes.at_ q) (a.nodes.at_ q).gen = true

theorem frd_iff {a : Ar} {i q : Nat} : frd a i q = true ↔ ∃ k, k < i ∧ a.free.at_ k = q := by
  unfold frd
  rw [anyB_true]
  simp
theorem rightB_iff {a : Ar} : rightB a = true ↔ RightP a := by
  constructor
  · intro h
    obtain ⟨⟨h1, h2, h3⟩, h4, h5⟩ := right_facts h
    have hf : ∀ i, i < a.free.n → (0 ≤ a.free.at_ i ∧ a.free.at_ i < a.nodes.n) ∧ frd a i (a.free.at_ i).toNat = false := fun i hi => by
      have := h4 i hi
      unfold bad1 at this
      obtain ⟨b1, b2⟩ := bor_f this
      obtain ⟨b3, b4⟩ := bor_f b1
      have b3 := of_decide_eq_false b3
      have b4 := of_decide_eq_false b4
      exact ⟨by omega, b2⟩
    have hk : ∀ q, q < a.nodes.n → wellB (a.nodes.at_ q) = true ∧ (((a.nodes.at_ q).kind == 0) = frd a a.free.n q) ∧ (frd a a.free.n q = true → bare (a.nodes.at_ q) (a.nodes.at_ q).gen = true) := fun q hq => by
      have := h5 q hq
      unfold bad2 at this
      obtain ⟨b1, b2⟩ := bor_f this
      obtain ⟨b3, b4⟩ := bor_f b1
      refine ⟨by simpa using b3, by simpa using b4, fun hfr => ?_⟩
      rw [hfr] at b2
      simpa using b2
    refine ⟨h1, h2, h3, fun i hi => (hf i hi).1, fun i j hij hj he => ?_, fun q hq => (hk q hq).1, fun q hq => ?_, fun q hq h0 => (hk q hq).2.2 ?_⟩
    · have h := (hf j hj).2
      have : frd a j (a.free.at_ j).toNat = true := frd_iff.2 ⟨i, hij, by have := (hf j hj).1; omega⟩
      rw [this] at h
      cases h
    · rw [← frd_iff, ← (hk q hq).2.1]
      simp
    · rw [← (hk q hq).2.1]
      simp [h0]
  · intro h
    unfold rightB
    have e1 : shapeBad a = false := by
      unfold shapeBad
      rw [decide_eq_false (by have := h.one; omega : ¬ (a.nodes.n : Int) < 1), decide_eq_false (by have := h.max; omega : ¬ (a.nodes.n : Int) > 512), decide_eq_false (by have := h.frn; omega : ¬ (a.free.n : Int) > a.nodes.n)]
      rfl
    have e2 : anyB (bad1 a) a.free.n = false := anyB_false.2 fun i hi => by
      unfold bad1
      have := h.fr i hi
      rw [decide_eq_false (by omega : ¬ a.free.at_ i < 0), decide_eq_false (by omega : ¬ a.free.at_ i ≥ a.nodes.n)]
      show frd a i (a.free.at_ i).toNat = false
      cases hb : frd a i (a.free.at_ i).toNat with
      | false => rfl
      | true =>
        obtain ⟨k, hk, he⟩ := frd_iff.1 hb
        exact absurd (by omega) (h.inj k i hk hi)
    have e3 : anyB (bad2 a) a.nodes.n = false := anyB_false.2 fun q hq => by
      unfold bad2
      have hkd : ((a.nodes.at_ q).kind == 0) = frd a a.free.n q := by
        cases hb : frd a a.free.n q with
        | true => simpa using (h.kind q hq).2 (frd_iff.1 hb)
        | false =>
          have : ¬ (a.nodes.at_ q).kind = 0 := fun e => by
            have := frd_iff.2 ((h.kind q hq).1 e)
            rw [hb] at this
            cases this
          simpa using this
      rw [h.well q hq, hkd]
      cases hb : frd a a.free.n q with
      | false => rfl
      | true =>
        rw [hb] at hkd
        rw [h.bare q hq (by simpa using hkd)]
        rfl
    rw [e1, e2, e3]
    rfl
end Go.Proofs.Ytadgjhbhghhbgaa.Abs
