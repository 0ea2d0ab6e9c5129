/-
  ARGUMENTS OF THE LAWS OF word, opened: rows of words, steps.
-/
import Derived.Test.YtndfcbcmeeemfaaLay
import Derived.Test.YtndfcbcmeeemfaaYW2
import Derived.Test.YtndfcbcmeeemfaaX7
import Derived.ChangeSlices
namespace Go.Proofs.Ytndfcbcmeeemfaa.Abs
open Go Go.ChangeShapes Go.WideShapes Go.ChangeAt Go.RowKit Go.Joins Go.Deep

theorem own : ownKnob Try.prog.godebug = none := by kernel_rfl
theorem laidOut : laidOutB Try.prog = true := by kernel_rfl
theorem cells22 : Try.prog.cellsOf 22 = 1 := by kernel_rfl

theorem open_words {H : Type} {enc : TypeId × Value → H} {W : World} {base : Nat} {v : Value} {d : DataW H} {p : List MemPlace} (hv : Value.okWide Try.prog W .any base 23 v) (h : DataW.Trod enc Try.prog W 0 (fun _ => true) true 23 v d p) :
    ∃ (n : Nat) (m : Nat → Int), CRel W noO noneμ (.one (uS n false m)) v := by
  obtain ⟨fuel, hf⟩ := h
  have hv' : Cell.ok Try.prog W .any base 23 v := by
    have := hv
    simp only [Value.okWide, Try.underlying23, Cell.okWide] at this
    exact this
  unfold Cell.ok at hv'
  rw [Try.underlying23] at hv'
  cases v with
  | slice o n c =>
    cases o with
    | none =>
      refine ⟨n, fun _ => 0, ?_⟩
      cases n with
      | zero => cases c with
        | zero => exact .inl ⟨⟨none, rfl⟩, rfl⟩
        | succ c => simp at hv'
      | succ n => simp at hv'
    | some a =>
      obtain ⟨h1, h2, _, h4, row, cells, h5, _⟩ := hv'
      rcases open_ints Try.underlying23 Try.underlying22 cells22 hf with ⟨h, _⟩ | ⟨a', len, cap, zs, h, _, h6, h7, h8, _, h9, _⟩
      · simp [Value.cells] at h
      · simp only [Value.cells, List.cons.injEq, Value.slice.injEq, Option.some.injEq, and_true] at h
        obtain ⟨rfl, rfl, rfl⟩ := h
        simp only [if_true] at h8
        obtain ⟨b, o, sp⟩ := a
        simp only at h4
        subst h4
        have hb : b < W.heap.size := by
          unfold World.shape? at h5
          cases hw : W.heap[b]? with
          | none => simp [hw] at h5
          | some _ => exact (Array.getElem?_eq_some_iff.1 hw).1
        refine ⟨n, fun i => zs.getD i 0, .inr ⟨b, o, c, rfl, h6, h7, fun h => (by cases h), id, hb, fun i hi j hj => ⟨.int .u64 (zs.getD i 0), ?_, rfl, rfl⟩⟩⟩
        obtain rfl : j = 0 := by omega
        have := h9 i (by omega)
        rw [Addr.add_lit] at this
        simpa using this
  | _ => simp at hv'

theorem one39 : oneCellFields Try.prog (Try.prog.fieldsOf 39) = true := by kernel_rfl
theorem cells39 : Try.prog.cellsOf 39 = 4 := by kernel_rfl

theorem open_step {H : Type} {enc : TypeId × Value → H} {W : World} {base : Nat} {v : Value} {d : DataW H} {p : List MemPlace} (hv : Value.okWide Try.prog W .any base 39 v) (h : DataW.Trod enc Try.prog W 0 (fun _ => true) true 39 v d p) :
    ∃ k a x y : Int, ∀ O μ, CRel W O μ (stepC k a x y) v := by
  obtain ⟨v0, v1, v2, v3, y0, y1, y2, y3, n, rfl, _, _, h0, h1, h2, h3⟩ := open_agg4 Try.underlying39 one39 cells39 hv h
  obtain ⟨a0, e0, _⟩ := DataW.trod_int Try.underlying3 h0
  obtain ⟨a1, e1, _⟩ := DataW.trod_int Try.underlying3 h1
  obtain ⟨a2, e2, _⟩ := DataW.trod_int Try.underlying22 h2
  obtain ⟨a3, e3, _⟩ := DataW.trod_int Try.underlying22 h3
  simp only [List.cons.injEq, and_true] at e0 e1 e2 e3
  subst e0 e1 e2 e3
  exact ⟨a0, a1, a2, a3, fun O μ => ⟨[_, _, _, _], rfl, LRel.cons (arel_int _ _) (LRel.cons (arel_int _ _) (LRel.cons (arel_int _ _) (LRel.cons (arel_int _ _) LRel.nil)))⟩⟩
end Go.Proofs.Ytndfcbcmeeemfaa.Abs
