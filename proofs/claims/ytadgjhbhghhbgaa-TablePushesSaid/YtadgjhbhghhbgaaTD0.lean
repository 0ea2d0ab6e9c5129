/-
  ARGUMENTS OF THE LAWS OF table, opened.
-/
import Derived.Test.YtadgjhbhghhbgaaRd
import Derived.Test.YtadgjhbhghhbgaaT1
import Derived.Test.YtadgjhbhghhbgaaX7
namespace Go.Proofs.Ytadgjhbhghhbgaa.Abs
open Go Go.ChangeShapes Go.WideShapes Go.ChangeAt Go.RowKit

set_option maxRecDepth 100000

theorem own : ownKnob Try.prog.godebug = none := by kernel_rfl
theorem laidOut : laidOutB Try.prog = true := by kernel_rfl

theorem open_intS {H : Type} {enc : TypeId × Value → H} {W : World} {base : Nat} {v : Value} {d : DataW H} {p : List MemPlace} (hv : Value.okWide Try.prog W .any base 22 v) (h : DataW.Trod enc Try.prog W 0 (fun _ => true) true 22 v d p) :
    ∃ (n : Nat) (g : Nat → Int), CRel W noO noneμ (.one (iS n false g)) v := by
  obtain ⟨x, ⟨n, c, rfl, hn, hc⟩, hx⟩ := open_one rd22 (noagg_slice Try.underlying22 hv) h
  refine ⟨n, fun i => ivInt (c i 0), (CLe.imm (ILe.sl rfl id (.inr ⟨rfl, fun i j hi hj => ILe.of_eq ?_⟩))) _ _ _ _ (hx noneμ)⟩
  obtain rfl : j = 0 := by omega
  obtain ⟨q, hq, _⟩ := hc i hi 0 hj
  show c i 0 = .val (.int .i64 (ivInt (c i 0)))
  rw [hq]
  rfl
end Go.Proofs.Ytadgjhbhghhbgaa.Abs
