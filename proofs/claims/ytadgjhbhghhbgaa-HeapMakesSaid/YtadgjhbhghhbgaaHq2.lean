/-
  PLAIN LAW: what Make makes of an arena; nodes behind references.
-/
import Derived.Test.YtadgjhbhghhbgaaHq1
namespace Go.Proofs.Ytadgjhbhghhbgaa.Abs
open Go

theorem well_mk {x : Nd} (h1 : 0 ≤ x.gen ∧ x.gen ≤ 1048576) (h2 : 0 ≤ x.pre ∧ x.pre ≤ 9) (h3 : 0 ≤ x.suf ∧ x.suf ≤ 9) (h4 : ∀ i, i < 9 → refOk ((kidS x).at_ i) = true) : wellB x = true := by
  unfold wellB
  have e : wellBad x = false := by
    unfold wellBad
    rw [decide_eq_false (by omega : ¬ x.gen < 0), decide_eq_false (by omega : ¬ x.gen > 1048576), decide_eq_false (by omega : ¬ x.pre < 0), decide_eq_false (by omega : ¬ x.pre > 9), decide_eq_false (by omega : ¬ x.suf < 0), decide_eq_false (by omega : ¬ x.suf > 9)]
    rfl
  have e2 : anyB (fun i => !refOk ((kidS x).at_ i)) 9 = false := anyB_false.2 fun i hi => by
    rw [h4 i hi]
    rfl
  rw [e, e2]
  rfl
theorem well_gen {x : Nd} {g g' : Int} (h : wellB (gen0 x g) = true) (hg : 0 ≤ g' ∧ g' ≤ 1048576) : wellB (gen0 x g') = true := by
  obtain ⟨_, h2, h3, h4⟩ := well_facts h
  exact well_mk hg h2 h3 h4

section
variable {a : Ar}
theorem RightP.last (h : RightP a) (hf : 0 < a.free.n) : lastF a < a.nodes.n ∧ a.free.at_ (a.free.n - 1) = lastF a ∧ (a.nodes.at_ (lastF a)).kind = 0 := by
  have h1 := h.fr (a.free.n - 1) (by omega)
  have h2 : a.free.at_ (a.free.n - 1) = lastF a := by
    unfold lastF
    omega
  have h3 : lastF a < a.nodes.n := by omega
  exact ⟨h3, h2, (h.kind _ h3).2 ⟨a.free.n - 1, by omega, h2⟩⟩
theorem RightP.gen (h : RightP a) {q : Nat} (hq : q < a.nodes.n) : 0 ≤ (a.nodes.at_ q).gen ∧ (a.nodes.at_ q).gen ≤ 1048576 := (well_facts (h.well q hq)).1
theorem mkAr_at {x : Nd} : (mkAr a x).nodes.at_ (lastF a) = gen0 x (a.nodes.at_ (lastF a)).gen := by
  show (bif Nat.beq (lastF a) (lastF a) then _ else _) = _
  rw [Nat.beq_refl]
  rfl
theorem mkAr_other {x : Nd} {q : Nat} (hq : q ≠ lastF a) : (mkAr a x).nodes.at_ q = a.nodes.at_ q := by
  show (bif Nat.beq q (lastF a) then _ else _) = _
  rw [beq_f hq]
  rfl
/-- A node is made: the arena may be still. -/
theorem RightP.make (h : RightP a) (hf : 0 < a.free.n) {x : Nd} (hk : x.kind ≠ 0) (hw : wellB (gen0 x 0) = true) : RightP (mkAr a x) := by
  obtain ⟨h1, h2, h3⟩ := h.last hf
  have hne : ∀ i, i < a.free.n - 1 → a.free.at_ i ≠ lastF a := fun i hi => h2 ▸ h.inj i (a.free.n - 1) hi (by omega)
  refine ⟨h.one, h.max, ?_, fun i hi => ?_, fun i j hij hj => ?_, fun q hq => ?_, fun q hq => ?_, fun q hq h0 => ?_⟩
  · show a.free.n - 1 ≤ a.nodes.n
    have := h.frn
    omega
  · have hi : i < a.free.n - 1 := hi
    exact h.fr i (by omega)
  · have hj : j < a.free.n - 1 := hj
    exact h.inj i j hij (by omega)
  · by_cases e : q = lastF a
    · subst e
      rw [mkAr_at]
      exact well_gen hw (h.gen h1)
    · rw [mkAr_other e]
      exact h.well q hq
  · by_cases e : q = lastF a
    · subst e
      rw [mkAr_at]
      constructor
      · intro e
        exact absurd e hk
      · rintro ⟨i, hi, he⟩
        exact absurd he (hne i hi)
    · rw [mkAr_other e, h.kind q hq]
      constructor
      · rintro ⟨i, hi, he⟩
        refine ⟨i, ?_, he⟩
        show i < a.free.n - 1
        rcases Nat.lt_or_ge i (a.free.n - 1) with hl | hl
        · exact hl
        · obtain rfl : i = a.free.n - 1 := by omega
          rw [h2] at he
          exact absurd (by omega) e
      · rintro ⟨i, hi, he⟩
        have hi : i < a.free.n - 1 := hi
        exact ⟨i, by omega, he⟩
  · by_cases e : q = lastF a
    · subst e
      rw [mkAr_at] at h0
      exact absurd h0 hk
    · rw [mkAr_other e] at h0 ⊢
      exact h.bare q hq h0

/-- A reference's node. -/
structure IsAt (a : Ar) (r : Int) (p : Nat) : Prop where
  lt : p < a.nodes.n
  pl : plOf r = p
  gn : gnOf r = (a.nodes.at_ p).gen
  kd : (a.nodes.at_ p).kind ≠ 0
theorem IsAt.get {r : Int} {p : Nat} (h : IsAt a r p) : getE a r = 0 ∧ getN a r = a.nodes.at_ p := by
  have hb : getBad a r = false := by
    unfold getBad
    have e : (plOf r).toNat = p := by
      rw [h.pl]
      rfl
    rw [e, h.pl, h.gn, decide_eq_false (by omega : ¬ (p : Int) < 0), decide_eq_false (by have := h.lt; omega : ¬ (p : Int) ≥ a.nodes.n)]
    have e2 : ((a.nodes.at_ p).kind == 0) = false := by simpa using h.kd
    rw [e2]
    simp
  unfold getE getN
  rw [hb, h.pl]
  exact ⟨rfl, rfl⟩
theorem IsAt.of_get {r : Int} (h : getE a r = 0) : IsAt a r (plOf r).toNat := by
  unfold getE at h
  cases hb : getBad a r with
  | true => rw [hb] at h; cases h
  | false =>
    unfold getBad at hb
    obtain ⟨h1, h2⟩ := bor_f hb
    obtain ⟨h1, h3⟩ := bor_f h1
    obtain ⟨h1, h4⟩ := bor_f h1
    have h1 := of_decide_eq_false h1
    have h4 := of_decide_eq_false h4
    have h3 : (a.nodes.at_ (plOf r).toNat).kind ≠ 0 := by simpa using h3
    have h2 : (a.nodes.at_ (plOf r).toNat).gen = gnOf r := by simpa using h2
    exact ⟨by omega, by omega, h2.symm, h3⟩
theorem IsAt.ok {r : Int} {p : Nat} (h : IsAt a r p) : refOk r = true ∧ r ≠ 0 := by
  have h1 : noRef r = false := by
    cases hb : noRef r with
    | false => rfl
    | true =>
      have := h.pl
      unfold plOf at this
      rw [hb] at this
      have : (-1 : Int) = p := this
      omega
  unfold noRef at h1
  obtain ⟨h2, h3⟩ := bor_f h1
  exact ⟨by simpa using h3, by simpa using h2⟩
theorem getE_zero : getE a 0 = 4 := by
  unfold getE getBad
  rw [pl_zero]
  rfl
theorem getN_zero : getN a 0 = nd0 := by
  unfold getN getBad
  rw [pl_zero]
  rfl
theorem IsAt.make (h : RightP a) (hf : 0 < a.free.n) {x : Nd} {r : Int} {p : Nat} (hp : IsAt a r p) : IsAt (mkAr a x) r p ∧ (mkAr a x).nodes.at_ p = a.nodes.at_ p := by
  obtain ⟨h1, h2, h3⟩ := h.last hf
  have hne : p ≠ lastF a := fun e => hp.kd (e ▸ h3)
  have e := mkAr_other (a := a) (x := x) hne
  exact ⟨⟨hp.lt, hp.pl, by rw [e]; exact hp.gn, by rw [e]; exact hp.kd⟩, e⟩
theorem IsAt.new (h : RightP a) (hf : 0 < a.free.n) {x : Nd} (hk : x.kind ≠ 0) : IsAt (mkAr a x) (refI (lastF a) (a.nodes.at_ (lastF a)).gen) (lastF a) := by
  obtain ⟨h1, h2, h3⟩ := h.last hf
  have hg := h.gen h1
  obtain ⟨q1, q2, q3⟩ := refI_ok (p := lastF a) (g := (a.nodes.at_ (lastF a)).gen) (by have := h.max; omega) hg.1 hg.2
  exact ⟨h1, q2, by rw [mkAr_at]; exact q3, by rw [mkAr_at]; exact hk⟩
/-- What the pile's make does, where it may. -/
theorem hpMake_ok (h : RightP a) (hf : 0 < a.free.n) {n : Nd} {c x s : Int} (hc : refOk c = true) (hx : refOk x = true) : hpMake ⟨a, 0⟩ n c x s = (⟨mkAr a (hpN n c x s), 0⟩, refI (lastF a) (a.nodes.at_ (lastF a)).gen) := by
  obtain ⟨h1, h2, h3⟩ := h.last hf
  have hg := h.gen h1
  have hw : wellB (gen0 (hpN n c x s) 0) = true := well_mk ⟨by show (0 : Int) ≤ 0; decide, by show (0 : Int) ≤ 1048576; decide⟩ ⟨by show (0 : Int) ≤ 0; decide, by show (0 : Int) ≤ 9; decide⟩ ⟨by show (0 : Int) ≤ 0; decide, by show (0 : Int) ≤ 9; decide⟩ fun i hi => by
    match i, hi with
    | 0, _ => exact hc
    | 1, _ => exact hx
    | 2, _ => rfl
    | 3, _ => rfl
    | 4, _ => rfl
    | 5, _ => rfl
    | 6, _ => rfl
    | 7, _ => rfl
    | 8, _ => rfl
    | q + 9, h => exact absurd h (by omega)
  have hb : mkBad a (hpN n c x s) = false := by
    unfold mkBad
    rw [rightB_iff.2 h, hw]
    rfl
  have he : mkE a (hpN n c x s) = 0 := by
    unfold mkE
    rw [hb, beq_f (by omega : a.free.n ≠ 0)]
    rfl
  rw [hpMake_eq]
  unfold hpMakeR mkA mkR
  simp only [he]
  show ((⟨mkAr a (hpN n c x s), 0⟩, ofR (lastF a) (a.nodes.at_ (lastF a)).gen) : Pile × Int) = _
  rw [ofR_eq (by have := h.max; omega) hg.1 hg.2]
end
end Go.Proofs.Ytadgjhbhghhbgaa.Abs
