/-
  ARGUMENTS OF THE LAWS OF script, opened: plans, deeds, texts.
-/
import Derived.Test.YtmpddomgiplnmaaDoorRd
import Derived.Test.YtmpddomgiplnmaaDoorS1
import Derived.Test.YtmpddomgiplnmaaDoorX7
namespace Go.Proofs.YtmpddomgiplnmaaDoor.Abs
open Go Go.ChangeShapes Go.WideShapes Go.ChangeAt Go.RowKit

set_option maxRecDepth 100000

theorem own : ownKnob Tryd.prog.godebug = none := by kernel_rfl
theorem laidOut : laidOutB Tryd.prog = true := by kernel_rfl
theorem fit_int {k : IntKind} {x : IV} (h : Fit (.int k) x) : x = .val (.int k (ivInt x)) := by
  obtain ⟨n, rfl, _⟩ := h
  rfl
theorem noagg_str {P : Program} {t : TypeId} {W : World} {base : Nat} {v : Value} (hu : P.underlying t = some .string) (hv : Value.okWide P W .any base t v) : ∀ cs, v ≠ .agg cs := by
  rintro cs rfl
  simp only [Value.okWide, hu, Cell.okWide, Cell.ok] at hv
theorem dd_ok {c : Nat → IV} (h : ∀ j, j < 2 → Fit (fm40 j) (c j)) : ddE.ok c := by
  obtain ⟨m, e, h1, hm, he⟩ : Fit (.sl 1 fm2) (c 1) := h 1 (by decide)
  refine ⟨fit_int (h 0 (by decide)), ?_⟩
  rw [h1]
  exact .inr ⟨rfl, fun i hi => fit_int (he i hi 0 (by decide))⟩
theorem open_deed {H : Type} {enc : TypeId × Value → H} {W : World} {base : Nat} {v : Value} {d : DataW H} {p : List MemPlace} (hv : Value.okWide Tryd.prog W .any base 40 v) (h : DataW.Trod enc Tryd.prog W 0 (fun _ => true) true 40 v d p) :
    ∃ x : Dd, CRel W noO noneμ (ddC x) v := by
  obtain ⟨x, hf, hx⟩ := open_agg rd40 (agg_struct Tryd.underlying40 hv) h
  have hx : CRel W noO noneμ (.agg [.imm (x 0), .imm (x 1)]) v := hx noneμ
  have hok := dd_ok hf
  refine ⟨ddE.g x, ?_⟩
  have hle : CLe (.agg [.imm (x 0), .imm (x 1)]) (ddC (ddE.g x)) := CLe.aggL ⟨CLe.imm (ddE.le x hok 0 (by decide)), CLe.imm (ddE.le x hok 1 (by decide)), trivial⟩
  exact hle _ _ _ _ hx
theorem open_plan {H : Type} {enc : TypeId × Value → H} {W : World} {base : Nat} {v : Value} {d : DataW H} {p : List MemPlace} (hv : Value.okWide Tryd.prog W .any base 24 v) (h : DataW.Trod enc Tryd.prog W 0 (fun _ => true) true 24 v d p) :
    ∃ x : Pl, CRel W noO noneμ (plC x) v := by
  obtain ⟨x, hf, hx⟩ := open_agg rd24 (agg_struct Tryd.underlying24 hv) h
  have hx : CRel W noO noneμ (.agg [.imm (x 0), .imm (x 1), .imm (x 2)]) v := hx noneμ
  have hok : plE.ok x := by
    obtain ⟨n, c, h2, hn, hc⟩ : Fit (.sl 2 fm40) (x 2) := hf 2 (by decide)
    refine ⟨fit_int (hf 0 (by decide)), fit_int (hf 1 (by decide)), ?_⟩
    rw [h2]
    exact .inr ⟨rfl, fun i hi => dd_ok (hc i hi)⟩
  refine ⟨plE.g x, ?_⟩
  have hle : CLe (.agg [.imm (x 0), .imm (x 1), .imm (x 2)]) (plC (plE.g x)) := CLe.aggL ⟨CLe.imm (plE.le x hok 0 (by decide)), CLe.imm (plE.le x hok 1 (by decide)), CLe.imm (plE.le x hok 2 (by decide)), trivial⟩
  exact hle _ _ _ _ hx
theorem open_text {H : Type} {enc : TypeId × Value → H} {W : World} {base : Nat} {v : Value} {d : DataW H} {p : List MemPlace} (hv : Value.okWide Tryd.prog W .any base 9 v) (h : DataW.Trod enc Tryd.prog W 0 (fun _ => true) true 9 v d p) :
    ∃ s : ByteArray, s.size ≤ maxLen ∧ CRel W noO noneμ (str s) v := by
  obtain ⟨x, ⟨s, rfl, hs⟩, hx⟩ := open_one rd9 (noagg_str Tryd.underlying9 hv) h
  exact ⟨s, hs, hx noneμ⟩
end Go.Proofs.YtmpddomgiplnmaaDoor.Abs
