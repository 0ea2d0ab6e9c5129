/-
  ARGUMENTS OF THE LAWS OF word, opened (2): rows of steps.
-/
import Derived.Test.YtndfcbcmeeemfaaRd
import Derived.Test.YtndfcbcmeeemfaaW13
import Derived.Test.YtndfcbcmeeemfaaD0
namespace Go.Proofs.Ytndfcbcmeeemfaa.Abs
open Go Go.ChangeShapes Go.WideShapes Go.ChangeAt Go.RowKit

theorem open_steps {H : Type} {enc : TypeId × Value → H} {W : World} {base : Nat} {v : Value} {d : DataW H} {p : List MemPlace} (hv : Value.okWide Try.prog W .any base 36 v) (h : DataW.Trod enc Try.prog W 0 (fun _ => true) true 36 v d p) :
    ∃ (n : Nat) (k a x y : Nat → Int), CRel W noO noneμ (.one (stepS n false k a x y)) v := by
  obtain ⟨x, ⟨n, c, rfl, hn, hc⟩, hx⟩ := open_one rd36 (noagg_slice Try.underlying36 hv) h
  refine ⟨n, fun i => ivInt (c i 0), fun i => ivInt (c i 1), fun i => ivInt (c i 2), fun i => ivInt (c i 3), ?_⟩
  refine (CLe.imm (ILe.sl rfl id (.inr ⟨rfl, fun i j hi hj => ILe.of_eq ?_⟩))) _ _ _ _ (hx noneμ)
  have := hc i hi j hj
  match j, hj with
  | 0, _ => obtain ⟨q, hq, _⟩ := this; rw [hq]; simp [stepI, hq, ivInt]
  | 1, _ => obtain ⟨q, hq, _⟩ := this; rw [hq]; simp [stepI, hq, ivInt]
  | 2, _ => obtain ⟨q, hq, _⟩ := this; rw [hq]; simp [stepI, hq, ivInt]
  | 3, _ => obtain ⟨q, hq, _⟩ := this; rw [hq]; simp [stepI, hq, ivInt]
end Go.Proofs.Ytndfcbcmeeemfaa.Abs
