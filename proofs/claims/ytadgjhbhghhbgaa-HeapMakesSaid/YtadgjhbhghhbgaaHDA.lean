/-
  ARGUMENTS OF THE LAWS OF heap, opened: arenas, references.
-/
import Derived.Test.YtadgjhbhghhbgaaHD0
import Derived.Test.YtadgjhbhghhbgaaHq5
namespace Go.Proofs.Ytadgjhbhghhbgaa.Abs
open Go Go.ChangeShapes Go.WideShapes Go.ChangeAt Go.RowKit

set_option maxRecDepth 100000

theorem noagg_int {P : Program} {t : TypeId} {k : IntKind} {W : World} {base : Nat} {v : Value} (hu : P.underlying t = some (.int k)) (hv : Value.okWide P W .any base t v) : ∀ cs, v ≠ .agg cs := by
  rintro cs rfl
  simp only [Value.okWide, hu, Cell.okWide, Cell.ok] at hv
theorem fit_int {k : IntKind} {x : IV} (h : Fit (.int k) x) : x = .val (.int k (ivInt x)) := by
  obtain ⟨n, rfl, _⟩ := h
  rfl
theorem fit_rng {x : IV} (h : Fit (.int .u64) x) : RngK (ivInt x) := by
  obtain ⟨n, rfl, h1, h2⟩ := h
  have h1 : 0 ≤ n := h1
  have h2 : n ≤ 18446744073709551615 := h2
  exact ⟨h1, by show n < 18446744073709551616; omega⟩
theorem open_ref {H : Type} {enc : TypeId × Value → H} {W : World} {base : Nat} {v : Value} {d : DataW H} {p : List MemPlace} (hv : Value.okWide Try.prog W .any base 37 v) (h : DataW.Trod enc Try.prog W 0 (fun _ => true) true 37 v d p) :
    ∃ r : Int, RngK r ∧ CRel W noO noneμ (u64 r) v := by
  obtain ⟨x, hf, hx⟩ := open_one rd37 (noagg_int Try.underlying37 hv) h
  have hf : Fit (.int .u64) x := hf
  have hx := hx noneμ
  refine ⟨ivInt x, fit_rng hf, ?_⟩
  rw [fit_int hf] at hx
  exact hx
theorem open_arena {H : Type} {enc : TypeId × Value → H} {W : World} {base : Nat} {v : Value} {d : DataW H} {p : List MemPlace} (hv : Value.okWide Try.prog W .any base 50 v) (h : DataW.Trod enc Try.prog W 0 (fun _ => true) true 50 v d p) :
    ∃ a : Ar, RngA a ∧ CRel W noO noneμ (arC a) v := by
  obtain ⟨x, hf, hx⟩ := open_agg rd50 (agg_struct Try.underlying50 hv) h
  obtain ⟨n, c, h0, hn, hc⟩ : Fit (.sl 16 fm91) (x 0) := hf 0 (by decide)
  obtain ⟨m, e, h1, hm, he⟩ : Fit (.sl 1 fm3) (x 1) := hf 1 (by decide)
  have hx : CRel W noO noneμ (.agg [.imm (x 0), .imm (x 1)]) v := hx noneμ
  have g0 : slOk ndE (x 0) := by
    rw [h0]
    refine .inr ⟨rfl, fun i hi => ?_⟩
    have := hc i hi
    exact ⟨fit_int (this 0 (by decide)), fit_int (this 1 (by decide)), fit_int (this 2 (by decide)), fit_int (this 3 (by decide)), fit_int (this 4 (by decide)), fit_int (this 5 (by decide)), fit_int (this 6 (by decide)), fit_int (this 7 (by decide)), fit_int (this 8 (by decide)), fit_int (this 9 (by decide)), fit_int (this 10 (by decide)), fit_int (this 11 (by decide)), fit_int (this 12 (by decide)), fit_int (this 13 (by decide)), fit_int (this 14 (by decide)), fit_int (this 15 (by decide))⟩
  have g1 : slOk intE (x 1) := by
    rw [h1]
    exact .inr ⟨rfl, fun i hi => fit_int (he i hi 0 (by decide))⟩
  refine ⟨⟨slG ndE (x 0), slG intE (x 1)⟩, fun q hq => ?_, ?_⟩
  · rw [h0] at hq ⊢
    have hq : q < n := hq
    exact ⟨fit_rng (hc q hq 5 (by decide)), fit_rng (hc q hq 6 (by decide))⟩
  · have hle : CLe (.agg [.imm (x 0), .imm (x 1)]) (.agg [.imm (slI ndE (slG ndE (x 0))), .imm (slI intE (slG intE (x 1)))]) := CLe.aggL ⟨CLe.imm (slI_le g0), CLe.imm (slI_le g1), trivial⟩
    exact hle _ _ _ _ hx
end Go.Proofs.Ytadgjhbhghhbgaa.Abs
