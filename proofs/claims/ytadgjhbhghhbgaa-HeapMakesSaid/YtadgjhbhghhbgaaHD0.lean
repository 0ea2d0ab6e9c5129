/-
  ARGUMENTS OF THE LAWS OF heap, opened.
-/
import Derived.Test.YtadgjhbhghhbgaaRd
import Derived.Test.YtadgjhbhghhbgaaAr1
import Derived.Test.YtadgjhbhghhbgaaX7
namespace Go.Proofs.Ytadgjhbhghhbgaa.Abs
open Go Go.ChangeShapes Go.WideShapes Go.ChangeAt Go.RowKit

set_option maxRecDepth 100000

theorem own : ownKnob Try.prog.godebug = none := by kernel_rfl
theorem laidOut : laidOutB Try.prog = true := by kernel_rfl

theorem open_items {H : Type} {enc : TypeId × Value → H} {W : World} {base : Nat} {v : Value} {d : DataW H} {p : List MemPlace} (hv : Value.okWide Try.prog W .any base 47 v) (h : DataW.Trod enc Try.prog W 0 (fun _ => true) true 47 v d p) :
    ∃ l : Sl Item, CRel W noO noneμ (.one (.imm (slI itE l))) v := by
  obtain ⟨x, ⟨n, c, rfl, hn, hc⟩, hx⟩ := open_one rd47 (noagg_slice Try.underlying47 hv) h
  refine ⟨⟨n, fun i => itG (c i)⟩, (CLe.imm (ILe.sl rfl (by simp) (.inr ⟨rfl, fun i j hi hj => ILe.of_eq ?_⟩))) _ _ _ _ (hx noneμ)⟩
  have hj : j < 2 := hj
  match j, hj with
  | 0, hj =>
    obtain ⟨q, hq, _⟩ := hc i hi 0 hj
    show c i 0 = .val (.int .i64 (ivInt (c i 0)))
    rw [hq]
    rfl
  | 1, hj =>
    obtain ⟨q, hq, _⟩ := hc i hi 1 hj
    show c i 1 = .val (.int .i64 (ivInt (c i 1)))
    rw [hq]
    rfl
theorem open_item {H : Type} {enc : TypeId × Value → H} {W : World} {base : Nat} {v : Value} {d : DataW H} {p : List MemPlace} (hv : Value.okWide Try.prog W .any base 54 v) (h : DataW.Trod enc Try.prog W 0 (fun _ => true) true 54 v d p) :
    ∃ x : Item, CRel W noO noneμ (itC x) v := by
  obtain ⟨x, hf, hx⟩ := open_agg rd54 (agg_struct Try.underlying54 hv) h
  have h0 : x 0 = .val (.int .i64 (ivInt (x 0))) := by
    obtain ⟨q, hq, _⟩ := hf 0 (by decide)
    rw [hq]
    rfl
  have h1 : x 1 = .val (.int .i64 (ivInt (x 1))) := by
    obtain ⟨q, hq, _⟩ := hf 1 (by decide)
    rw [hq]
    rfl
  have h2 : CRel W noO noneμ (.agg [.imm (x 0), .imm (x 1)]) v := hx noneμ
  rw [h0, h1] at h2
  exact ⟨⟨ivInt (x 0), ivInt (x 1)⟩, h2⟩
end Go.Proofs.Ytadgjhbhghhbgaa.Abs
