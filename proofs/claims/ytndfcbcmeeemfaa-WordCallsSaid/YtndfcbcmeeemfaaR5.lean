/-
  LOOPS: the state at a loop's head as a short list of slots.
-/
import Derived.Test.YtndfcbcmeeemfaaR4
namespace Go.Proofs.Ytndfcbcmeeemfaa.Abs
open Go

def envL : List (Nat × SV) → Nat → SV
  | [], _ => .undef
  | (k, x) :: l, t => bif Nat.beq t k then x else envL l t

/-- What the list tells is so. -/
def allE (E : Nat → SV) : List (Nat × SV) → Prop
  | [] => True
  | (k, x) :: l => E k = x ∧ allE E l

theorem envL_le {E : Nat → SV} : ∀ (l : List (Nat × SV)), allE E l → ∀ t, envL l t = .undef ∨ envL l t = E t
  | [], _, _ => .inl rfl
  | (k, x) :: l, h, t => by
    simp only [envL]
    cases hb : Nat.beq t k with
    | true => exact .inr (by rw [Nat.eq_of_beq_eq_true hb, h.1]; rfl)
    | false => exact envL_le l h.2 t

theorem le_env {n nx nx' : Nat} {E : Nat → SV} {H : Nat → Option ABlk} {l : List (Nat × SV)} (h : allE E l) (hn : nx ≤ nx') : Le ⟨n, E, H, nx⟩ ⟨n, envL l, H, nx'⟩ :=
  ⟨rfl, envL_le l h, fun _ => .inr rfl, hn⟩

/-- A slice is never longer than memory. -/
theorem AW_lenle (t : Nat) {K : Nat} {P : Program} {Q : Exit → St → Prop} {c : Code} {S : St} {e n : Nat} {ex : Bool} {cell : Nat → Nat → IV} (hE : S.env t = .cv (.one (.imm (.sl e n ex cell)))) (h : n ≤ maxLen → AW K P c Q S) : AW K P c Q S := by
  intro C μ a w hR
  have h1 := hR.env t
  rw [hE] at h1
  have h2 : IRel w (Own C.F S.heap μ) (.sl e n ex cell) (a.tmps.getD t Go.undef) := h1
  refine h ?_ C μ a w hR
  rcases h2 with ⟨_, h3⟩ | ⟨_, _, cap, _, h3, h4, _⟩
  · rw [h3]; exact Nat.zero_le _
  · omega

theorem next_int (i n : Nat) (h : i < n) (hn : n ≤ maxLen) : IntKind.i64.wrap ((i : Int) + 1) = ((i + 1 : Nat) : Int) := by
  rw [IntKind.wrap_i64]
  simp only [maxLen] at hn
  omega

/-- A loop whose heads are told by a list of slots, the memory as it was. -/
theorem AW_loopL {K : Nat} {P : Program} {Q : Exit → St → Prop} {c : Code} {n nx : Nat} {E : Nat → SV} {H : Nat → Option ABlk} {ι : Type} (l : ι → List (Nat × SV)) (m : ι → Nat) (i : ι) (h0 : allE E (l i)) (round : ∀ j, AW K P c (loopQ (fun j => ⟨n, envL (l j), H, nx⟩) m j Q) ⟨n, envL (l j), H, nx⟩) : AW K P (.loop c) Q ⟨n, E, H, nx⟩ :=
  AW_loop (fun j => ⟨n, envL (l j), H, nx⟩) m i (le_env h0 (Nat.le_refl _)) round

/-- The end of a round. -/
theorem loop_next {Q : Exit → St → Prop} {n nx : Nat} {E : Nat → SV} {H : Nat → Option ABlk} {ι : Type} {l : ι → List (Nat × SV)} {m : ι → Nat} {i : ι} (j : ι) (h : allE E (l j)) (hm : m j < m i) : loopQ (fun j => ⟨n, envL (l j), H, nx⟩) m i Q .normal ⟨n, E, H, nx⟩ :=
  ⟨j, le_env h (Nat.le_refl _), hm⟩
end Go.Proofs.Ytndfcbcmeeemfaa.Abs
