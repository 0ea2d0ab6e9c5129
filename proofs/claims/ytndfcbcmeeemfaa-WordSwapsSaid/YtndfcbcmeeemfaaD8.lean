/-
  THE STATEMENT WordSwaps: its contract, lifted to its row.
-/
import Derived.Test.YtndfcbcmeeemfaaRows
import Derived.Test.YtndfcbcmeeemfaaW8
import Derived.Test.YtndfcbcmeeemfaaL0
import Derived.ChangeSlices
namespace Go.Proofs.Ytndfcbcmeeemfaa.Abs
open Go Go.ChangeShapes Go.WideShapes Go.ChangeAt Go.RowKit

theorem own : ownKnob Try.prog.godebug = none := by kernel_rfl
theorem laidOut : laidOutB Try.prog = true := by kernel_rfl
theorem cells22 : Try.prog.cellsOf 22 = 1 := by kernel_rfl

theorem open_words {H : Type} {enc : TypeId × Value → H} {W : World} {base : Nat} {v : Value} {d : DataW H} {p : List MemPlace} (hv : Value.okWide Try.prog W .any base 23 v) (h : DataW.Trod enc Try.prog W 0 (fun _ => true) true 23 v d p) :
    ∃ (n : Nat) (m : Nat → Int), CRel W noO noneμ (.one (uS n false m)) v := by
  obtain ⟨fuel, hf⟩ := h
  have hv' : Cell.ok Try.prog W .any base 23 v := by
    have := hv
    simp only [Value.okWide, Try.underlying23, Cell.okWide] at this
    exact this
  unfold Cell.ok at hv'
  rw [Try.underlying23] at hv'
  cases v with
  | slice o n c =>
    cases o with
    | none =>
      refine ⟨n, fun _ => 0, ?_⟩
      cases n with
      | zero => cases c with
        | zero => exact .inl ⟨⟨none, rfl⟩, rfl⟩
        | succ c => simp at hv'
      | succ n => simp at hv'
    | some a =>
      obtain ⟨h1, h2, _, h4, row, cells, h5, _⟩ := hv'
      rcases open_ints Try.underlying23 Try.underlying22 cells22 hf with ⟨h, _⟩ | ⟨a', len, cap, zs, h, _, h6, h7, h8, _, h9, _⟩
      · simp [Value.cells] at h
      · simp only [Value.cells, List.cons.injEq, Value.slice.injEq, Option.some.injEq, and_true] at h
        obtain ⟨rfl, rfl, rfl⟩ := h
        simp only [if_true] at h8
        obtain ⟨b, o, sp⟩ := a
        simp only at h4
        subst h4
        have hb : b < W.heap.size := by
          unfold World.shape? at h5
          cases hw : W.heap[b]? with
          | none => simp [hw] at h5
          | some _ => exact (Array.getElem?_eq_some_iff.1 hw).1
        refine ⟨n, fun i => zs.getD i 0, .inr ⟨b, o, c, rfl, h6, h7, fun h => (by cases h), id, hb, fun i hi j hj => ⟨.int .u64 (zs.getD i 0), ?_, rfl, rfl⟩⟩⟩
        obtain rfl : j = 0 := by omega
        have := h9 i (by omega)
        rw [Addr.add_lit] at this
        simpa using this
  | _ => simp at hv'

set_option maxRecDepth 100000 in
theorem swaps_lifted (os : Os) (started : os.Started) (H : Type) (enc : TypeId × Value → H) :
    ReturnsInHanded {} Try.checked os 4 .any (Rows.wordSwapsSpec.pre6 enc Try.prog Try.f4 Rows.wordSwapsRow.domain false) (Rows.wordSwapsSpec.post enc Try.prog Try.f4 false true false false) := by
  refine returnsInHanded_of_change (C := Try.checked) own started (by kernel_rfl) Try.func4
    (ChangeSpec.witness6 (enc := enc) (C := Try.checked) false ⟨#[], #[.slice none 0 0, .int .i64 0, .int .u64 0], []⟩ 8 (by kernel_rfl) (by kernel_rfl) (by kernel_rfl) (by kernel_rfl)) ?_
  intro W base args ds gs before hval hW _ _
  have hval : ∀ (j : Nat) t v, Try.f4.params[j]? = some t → args[j]? = some v → Value.okWide Try.prog W .any base t v := hval
  have hW' := hW
  obtain ⟨p, q, hA0, hV, rfl, hfz, hnd⟩ := hW
  have hA : DataW.TrodAll enc Try.prog W 0 (fun _ => true) true Try.f4.params.toList args.toList ds p := hA0
  rw [Try.params4] at hA hval
  obtain ⟨v0, vs0, d0, ds0, p0, q0, hargs, rfl, rfl, h0, r0⟩ := trodAll_cons hA
  obtain ⟨v1, vs1, d1, ds1, p1, q1, rfl, rfl, rfl, h1, r1⟩ := trodAll_cons r0
  obtain ⟨v2, vs2, d2, ds2, p2, q2, rfl, rfl, rfl, h2, r2⟩ := trodAll_cons r1
  obtain ⟨rfl, rfl, rfl⟩ := trodAll_nil r2
  obtain rfl : args = #[v0, v1, v2] := by cases args; simp_all
  obtain ⟨rfl, rfl⟩ := trodVars_none hV
  obtain ⟨n, m, hm⟩ := open_words (hval 0 23 v0 rfl rfl) h0
  obtain ⟨k, rfl, _, _, _⟩ := open_int Try.underlying3 (hval 1 3 v1 rfl rfl) h1
  obtain ⟨x, rfl, _, _, _⟩ := open_int Try.underlying22 (hval 2 22 v2 rfl rfl) h2
  refine (pcall_law (swaps4 n false m k x) (TRel.cons hm (TRel.cons (crel_int _ _) (TRel.cons (crel_int _ _) TRel.nil)))).mono fun e W' ⟨he, hext⟩ => ?_
  exact ⟨_, he, law_post (s := Rows.wordSwapsSpec) laidOut (by rw [Try.params4]; decide +kernel) rfl rfl Try.underlying4 hW' rfl rfl rfl hext⟩
end Go.Proofs.Ytndfcbcmeeemfaa.Abs

namespace Go.Proofs.Ytndfcbcmeeemfaa
open Go
theorem wordSwaps_holds : Rows.WordSwapsSaid :=
  OpenClaim.holds_of_wide 4 Try.f4 rfl rfl rfl rfl rfl rfl rfl ⟨rfl, rfl, rfl, rfl, rfl⟩ rfl rfl rfl rfl rfl (by kernel_rfl) Try.func4 (by kernel_rfl)
    (of_decide_eq_true (by kernel_rfl)) (by unfold Func.isWrapper; first | (rw [if_pos (by decide +kernel)]; kernel_rfl) | (rw [if_neg (by decide +kernel)]; exact ⟨rfl, rfl⟩))
    (fun os started H enc _ => Abs.swaps_lifted os started H enc)
#print axioms wordSwaps_holds
end Go.Proofs.Ytndfcbcmeeemfaa
