/-
  THE LIBRARY's SORT AS A CALL WITH EFFECTS: rows of items, sorted by heap's order.
-/
import Derived.Test.YtadgjhbhghhbgaaHs0
import Derived.Test.YtadgjhbhghhbgaaHp1
namespace Go.Proofs.Ytadgjhbhghhbgaa.Abs
open Go

/-- A call on data without references: the world grows, and draws. -/
theorem PCall.grows {P : Program} {f : FuncId} {args : List CV} {r : SV} (h : PCall P f args r) {W : World} {vals : List Value} (hv : TRel W (fun m => m < W.heap.size) noneμ args vals) :
    Calls P f vals.toArray W fun e w' => ∃ v, e = .returned v ∧ SRel w' (fun m => m < W.heap.size) noneμ r v ∧ ∃ q os', w' = Sort.grow (W.drewN q) os' := by
  refine (h _ W vals (fun _ h => h) hv).mono ?_
  rintro e w' ⟨v, he, hext, hs⟩
  refine ⟨v, he, hs, w'.drawn - W.drawn, w'.heap.extract W.heap.size w'.heap.size, ?_⟩
  have hh : w'.heap = W.heap ++ w'.heap.extract W.heap.size w'.heap.size := by
    apply Array.ext_getElem?
    intro i
    rw [Array.getElem?_append]
    split
    · rename_i hi
      exact hext.frn i hi hi
    · rename_i hi
      rw [Array.getElem?_extract]
      have h1 : W.heap.size + (i - W.heap.size) = i := by omega
      rw [h1]
      split
      · rfl
      · rename_i h2
        exact Array.getElem?_eq_none (by omega)
  have h1 := hext.os
  have h2 := hext.tape
  have h3 := hext.output
  have h4 := hext.drawn
  obtain ⟨heap, tape, drawn, os, output⟩ := w'
  dsimp only at h1 h2 h3 h4 hh ⊢
  subst h1 h2 h3
  unfold Sort.grow World.drewN
  rw [← hh]
  congr 1
  show drawn = W.drawn + (drawn - W.drawn)
  omega

/-- The world grown by whatever. -/
theorem HRel.grown {F : Nat → Prop} {w : World} {μ : Nat → Option Nat} {H : Nat → Option ABlk} {nx : Nat} (hH : HRel F w μ H nx) (n : Nat) (os : Array Obj) :
    Ext F w (Own F H μ) μ (Sort.grow (Sort.ahead w n) os) (Own F H μ) μ ∧ HRel F (Sort.grow (Sort.ahead w n) os) μ H nx := by
  have hsz : (Sort.grow (Sort.ahead w n) os).heap.size = w.heap.size + os.size := by
    show (w.heap ++ os).size = _
    simp
  have hg : ∀ b : Nat, b < w.heap.size → (Sort.grow (Sort.ahead w n) os).heap[b]? = w.heap[b]? := fun b hb => by
    show (w.heap ++ os)[b]? = _
    rw [Array.getElem?_append, if_pos hb]
  have hext : Ext F w (Own F H μ) μ (Sort.grow (Sort.ahead w n) os) (Own F H μ) μ :=
    ⟨rfl, rfl, rfl, by omega, fun b hb _ => hg b hb, fun b cur t fz hb => ⟨cur, (hg b (Array.getElem?_eq_some_iff.1 hb).1).trans hb, rfl⟩, fun _ _ h => h, fun _ h => .inl h, fun b hb _ => hg b hb, fun a ha => frozen_same (hg a.block ha), Nat.le_add_right _ _⟩
  refine ⟨hext, ⟨fun k B hk => ?_, hH.inj, fun k m hm => ?_, hH.dis, fun m hm => ?_⟩⟩
  · obtain ⟨h1, h2⟩ := hH.blk k B hk
    exact ⟨h1, h2.mono hext rfl fun m hm => hg m (hH.lt k m hm).2⟩
  · have := hH.lt k m hm
    exact ⟨this.1, by omega⟩
  · have := hH.frn m hm
    omega

def itV (x : Item) : List Value := [.int .i64 x.k, .int .i64 x.v]
instance : Inhabited Item := ⟨⟨0, 0⟩⟩
open Shelf RowKit Lib in
theorem ordLays (m off size : Nat) (w : World) : CmpLays Try.prog 57 #[] itV 2 ordI m off size w := fun k os dk _ x y => by
  refine ((orderItem x y).grows (vals := [.agg (itV x).toArray, .agg (itV y).toArray]) ⟨rfl, fun i a u ha hu => ?_⟩).mono ?_
  · have hc : ∀ (z : Item) W O μ, CRel W O μ (itC z) (.agg (itV z).toArray) := fun z W O μ => ⟨itV z, rfl, rfl, fun j a u ha hu => by
      match j, ha, hu with
      | 0, ha, hu => cases ha; cases hu; exact ⟨rfl, rfl⟩
      | 1, ha, hu => cases ha; cases hu; exact ⟨rfl, rfl⟩⟩
    match i, ha, hu with
    | 0, ha, hu => cases ha; cases hu; exact hc _ _ _ _
    | 1, ha, hu => cases ha; cases hu; exact hc _ _ _ _
  · rintro e w' ⟨v, he, hs, hw⟩
    refine ⟨?_, hw⟩
    have hs : v = .int .i64 (ordI x y) := hs.1
    rw [he, hs]
/-- The length in bits of nought. -/
theorem lenZ : PCall Try.prog 74 [.one (.imm (.val (.int .u64 0)))] (.cv (iint 0)) := by
  intro O w vals hO hA
  obtain ⟨hl, hA⟩ := hA
  match vals, hl with
  | [v], _ =>
    obtain ⟨rfl, _⟩ : v = .int .u64 0 ∧ One (.int .u64 0) := hA 0 _ _ rfl rfl
    refine (Any.bits_Len bitsLen 0 w (Int.le_refl _) (by omega)).mono ?_
    rintro e w' ⟨rfl, rfl⟩
    exact ⟨_, rfl, Ext.refl _ _ _ _, rfl, rfl⟩
end Go.Proofs.Ytadgjhbhghhbgaa.Abs
