/-
  A BLOCK BY ANOTHER NAME.
-/
import Derived.Test.YtadgjhbhghhbgaaX9
namespace Go.Proofs.Ytadgjhbhghhbgaa.Abs
open Go

theorem nbeq {i n : Nat} (h : i ≠ n) : Nat.beq i n = false := by
  cases hb : Nat.beq i n with
  | false => rfl
  | true => exact absurd (Nat.eq_of_beq_eq_true hb) h
theorem find_ne {b : Nat} : ∀ (hp : List (Nat × ABlk)), (hp.all fun p => !(Nat.beq p.1 b)) = true → ∀ {k B}, findB hp k = some B → k ≠ b
  | [], _, _, _, h => by cases h
  | (q, x) :: l, ha, k, B, h => by
    simp only [List.all_cons, Bool.and_eq_true] at ha
    simp only [findB] at h
    cases hb : Nat.beq k q with
    | true =>
      obtain rfl := Nat.eq_of_beq_eq_true hb
      intro e
      rw [e, Nat.beq_refl] at ha
      exact absurd ha.1 (by decide)
    | false => rw [hb] at h; exact find_ne l ha.2 h

section
variable {K : Nat} {P : Program} {S : St} {Q : Exit → St → Prop}

/-- Block b is called nx from here on; slots and blocks are told anew. -/
theorem AW_renew (b : Nat) {c : Code} {n nx : Nat} {E : Nat → SV} {H : Nat → Option ABlk} (l : List (Nat × SV)) (hp : List (Nat × ABlk)) (hnb : (hp.all fun p => !(Nat.beq p.1 b)) = true)
    (hE : allLe (fun k => bif Nat.beq k nx then b else k) E l) (hH : allBLe (fun k => bif Nat.beq k nx then b else k) (nx + 1) H hp) (h : AW K P c Q ⟨n, envX E [] l, heapX H [] hp, nx + 1⟩) : AW K P c Q ⟨n, E, H, nx⟩ := by
  intro C μ a w hR
  obtain ⟨ρ, hρ⟩ : ∃ ρ : Nat → Nat, ρ = fun k => bif Nat.beq k nx then b else k := ⟨_, rfl⟩
  rw [← hρ] at hE hH
  have hρn : ∀ k, k ≠ nx → ρ k = k := fun k hk => by rw [hρ]; show (bif Nat.beq k nx then b else k) = k; rw [nbeq hk]; rfl
  have hρb : ρ nx = b := by rw [hρ]; show (bif Nat.beq nx nx then b else nx) = b; rw [Nat.beq_refl]; rfl
  have hget : ∀ k B, heapX H [] hp k = some B → (k ≠ b ∧ k < nx + 1) ∧ ∃ B0, H (ρ k) = some B0 ∧ BLe B0 (renB ρ B) := fun k B hk => by
    unfold heapX at hk
    cases hf : findB hp k with
    | none => rw [hf] at hk; simp [memN] at hk
    | some B1 =>
      rw [hf] at hk
      obtain rfl : B1 = B := Option.some.inj hk
      obtain ⟨h1, h2⟩ := allBLe_get hp hH k B1 hf
      exact ⟨⟨find_ne hp hnb hf, h1⟩, h2⟩
  have hsome : ∀ k, (heapX H [] hp k).isSome = true → (k ≠ b ∧ k < nx + 1) ∧ (H (ρ k)).isSome = true := fun k hk => by
    obtain ⟨B, hB⟩ := Option.isSome_iff_exists.1 hk
    obtain ⟨h1, B0, h2, _⟩ := hget k B hB
    exact ⟨h1, by rw [h2]; rfl⟩
  have hinj : ∀ j k, j ≠ b → k ≠ b → ρ j = ρ k → j = k := fun j k hj hk e => by
    by_cases h1 : j = nx
    · by_cases h2 : k = nx
      · rw [h1, h2]
      · rw [h1, hρb, hρn k h2] at e
        exact absurd e.symm hk
    · by_cases h2 : k = nx
      · rw [h2, hρb, hρn j h1] at e
        exact absurd e hj
      · rw [hρn j h1, hρn k h2] at e
        exact e
  have hsub : ∀ m, Own C.F (heapX H [] hp) (fun k => μ (ρ k)) m → Own C.F H μ m := by
    rintro m (hF | ⟨k, hk, hm⟩)
    · exact .inl hF
    · exact .inr ⟨ρ k, (hsome k hk).2, hm⟩
  have hx0 : Ext C.F w (Own C.F H μ) (fun k => μ (ρ k)) w (Own C.F (heapX H [] hp) fun k => μ (ρ k)) (fun k => μ (ρ k)) := ext_sub hsub
  refine h C (fun k => μ (ρ k)) a w ⟨hR.defers, hR.size, fun t => ?_, ⟨fun k B hk => ?_, fun k k' m hk hk' hm hm' => ?_, fun k m hm => ?_, fun k m hk hm => ?_, hR.heap.frn⟩, ?_⟩
  · show SRel w _ _ (envX E [] l t) _
    unfold envX
    cases hf : findE l t with
    | none => trivial
    | some x =>
      have h1 := allLe_get l hE t x hf _ _ _ _ (hR.env t)
      exact SRel.mono hx0 ((renS_rel x _).1 h1)
  · have hk : heapX H [] hp k = some B := hk
    obtain ⟨h1, B0, h2, h3⟩ := hget k B hk
    have h4 := (hR.heap.blk _ B0 h2).2
    have h5 := (renB_rel k B).1 (h3 _ _ _ _ h4)
    exact ⟨h1.2, h5.mono hx0 rfl fun _ _ => rfl⟩
  · exact hinj _ _ (hsome k hk).1.1 (hsome k' hk').1.1 (hR.heap.inj _ _ m (hsome k hk).2 (hsome k' hk').2 hm hm')
  · have h1 := hR.heap.lt _ m hm
    refine ⟨?_, h1.2⟩
    by_cases h2 : k = nx
    · rw [h2]
      exact Nat.lt_succ_self _
    · rw [hρn k h2] at h1
      exact Nat.lt_succ_of_lt h1.1
  · exact hR.heap.dis _ m (hsome k hk).2 hm
  · have hx := hR.ext.toO hsub
    refine ⟨hx.os, hx.tape, hx.output, hx.size, hx.keep, hx.shape, fun k m hm => ?_, hx.owned, hx.frn, hx.frz, hx.drawn⟩
    show μ (ρ k) = some m
    have h1 := hR.ext.mu k m hm
    have h2 := (hR.heap.lt k m h1).1
    rw [hρn k (by
      show k ≠ nx
      have : k < nx := h2
      omega)]
    exact h1
end
end Go.Proofs.Ytadgjhbhghhbgaa.Abs
