/-
  ARGUMENTS OF THE LAWS OF machine, opened: rows of integers, processes, rows of these.
-/
import Derived.Test.YtndfcbcmeeemfaaRd
import Derived.Test.YtndfcbcmeeemfaaYM1
import Derived.Test.YtndfcbcmeeemfaaYM2
import Derived.Test.YtndfcbcmeeemfaaX6
import Derived.Test.YtndfcbcmeeemfaaD0
namespace Go.Proofs.Ytndfcbcmeeemfaa.Abs
open Go Go.ChangeShapes Go.WideShapes Go.ChangeAt Go.RowKit

theorem open_intS {H : Type} {enc : TypeId × Value → H} {W : World} {base : Nat} {v : Value} {d : DataW H} {p : List MemPlace} (hv : Value.okWide Try.prog W .any base 50 v) (h : DataW.Trod enc Try.prog W 0 (fun _ => true) true 50 v d p) :
    ∃ (n : Nat) (g : Nat → Int), CRel W noO noneμ (.one (iS n false g)) v := by
  obtain ⟨x, ⟨n, c, rfl, hn, hc⟩, hx⟩ := open_one rd50 (noagg_slice Try.underlying50 hv) h
  refine ⟨n, fun i => ivInt (c i 0), (CLe.imm (ILe.sl rfl id (.inr ⟨rfl, fun i j hi hj => ILe.of_eq ?_⟩))) _ _ _ _ (hx noneμ)⟩
  obtain rfl : j = 0 := by omega
  obtain ⟨q, hq, _⟩ := hc i hi 0 hj
  show c i 0 = .val (.int .i64 (ivInt (c i 0)))
  rw [hq]
  rfl

theorem fit_ins {c : Nat → IV} (h : ∀ j, j < 5 → Fit (fm67 j) (c j)) : ∀ j, j < 5 → c j = insI (insAt c) j := by
  intro j hj
  have := h j hj
  match j, hj with
  | 0, _ => obtain ⟨q, hq, _⟩ := this; simp [insI, insAt, hq, ivInt]
  | 1, _ => obtain ⟨q, hq, _⟩ := this; simp [insI, insAt, hq, ivInt]
  | 2, _ => obtain ⟨q, hq, _⟩ := this; simp [insI, insAt, hq, ivInt]
  | 3, _ => obtain ⟨q, hq, _⟩ := this; simp [insI, insAt, hq, ivInt]
  | 4, _ => obtain ⟨q, hq, _⟩ := this; simp [insI, insAt, hq, ivInt]

theorem fit_prc {x : Nat → IV} (h : ∀ j, j < 8 → Fit (fm54 j) (x j)) : (prcAt x).n ≤ maxLen ∧ ∀ j, j < 8 → ILe (x j) (prcI (prcAt x) j) := by
  obtain ⟨n, c, h0, hn, hc⟩ := h 0 (by omega)
  refine ⟨by simp [prcAt, h0, ivLen]; exact hn, fun j hj => ?_⟩
  have := h j hj
  match j, hj with
  | 0, _ =>
    have e : prcI (prcAt x) 0 = progI n (progAt c) := by simp [prcI, prcAt, h0, ivLen, ivCell]
    rw [e, h0]
    exact prog_le fun i hi j hj => fit_ins (hc i hi) j hj
  | 1, _ => obtain ⟨q, hq, _⟩ := this; exact ILe.of_eq (by simp [prcI, prcAt, hq, ivInt])
  | 2, _ => obtain ⟨q, hq, _⟩ := this; exact ILe.of_eq (by simp [prcI, prcAt, hq, ivInt])
  | 3, _ => obtain ⟨q, hq, _⟩ := this; exact ILe.of_eq (by simp [prcI, prcAt, hq, ivInt])
  | 4, _ => obtain ⟨q, hq, _⟩ := this; exact ILe.of_eq (by simp [prcI, prcAt, hq, ivInt])
  | 5, _ => obtain ⟨q, hq, _⟩ := this; exact ILe.of_eq (by simp [prcI, prcAt, hq, ivInt])
  | 6, _ => obtain ⟨q, hq⟩ := this; exact ILe.of_eq (by simp [prcI, prcAt, hq, ivBool])
  | 7, _ => obtain ⟨q, hq, _⟩ := this; exact ILe.of_eq (by simp [prcI, prcAt, hq, ivInt])

theorem open_prc {H : Type} {enc : TypeId × Value → H} {W : World} {base : Nat} {v : Value} {d : DataW H} {p : List MemPlace} (hv : Value.okWide Try.prog W .any base 54 v) (h : DataW.Trod enc Try.prog W 0 (fun _ => true) true 54 v d p) :
    ∃ q : Prc, q.n ≤ maxLen ∧ CRel W noO noneμ (prcC q) v := by
  obtain ⟨x, hx, hr⟩ := open_agg rd54 (agg_struct Try.underlying54 hv) h
  obtain ⟨h1, h2⟩ := fit_prc hx
  refine ⟨prcAt x, h1, ?_⟩
  refine (CLe.aggL (l := (List.range 8).map fun j => .imm (x j)) ?_) _ _ _ _ (hr noneμ)
  exact ⟨CLe.imm (h2 0 (by omega)), CLe.imm (h2 1 (by omega)), CLe.imm (h2 2 (by omega)), CLe.imm (h2 3 (by omega)), CLe.imm (h2 4 (by omega)), CLe.imm (h2 5 (by omega)), CLe.imm (h2 6 (by omega)), CLe.imm (h2 7 (by omega)), trivial⟩

theorem open_procs {H : Type} {enc : TypeId × Value → H} {W : World} {base : Nat} {v : Value} {d : DataW H} {p : List MemPlace} (hv : Value.okWide Try.prog W .any base 49 v) (h : DataW.Trod enc Try.prog W 0 (fun _ => true) true 49 v d p) :
    ∃ (n : Nat) (l : Nat → Prc), (∀ i, i < n → (l i).n ≤ maxLen) ∧ CRel W noO noneμ (.one (prcS n false l)) v := by
  obtain ⟨x, ⟨n, c, rfl, hn, hc⟩, hx⟩ := open_one rd49 (noagg_slice Try.underlying49 hv) h
  refine ⟨n, fun i => prcAt (c i), fun i hi => (fit_prc (hc i hi)).1, (CLe.imm (ILe.sl rfl id (.inr ⟨rfl, fun i j hi hj => (fit_prc (hc i hi)).2 j hj⟩))) _ _ _ _ (hx noneμ)⟩
end Go.Proofs.Ytndfcbcmeeemfaa.Abs
