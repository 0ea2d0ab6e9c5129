/-
  PLAIN LAW: rows laid in an arena of 300 nodes; what is put in and taken off.
-/
import Derived.Test.YtadgjhbhghhbgaaHq11
import Derived.Test.YtadgjhbhghhbgaaHv
namespace Go.Proofs.Ytadgjhbhghhbgaa.Abs
open Go

theorem rowB_sorted (b : Nat) (l : Sl Item) : ∀ i, Sorted (rowB b l i)
  | 0 => fun i j _ hj => absurd hj (Nat.not_lt_zero j)
  | i + 1 => by
    rcases Nat.lt_or_ge i b with h | h
    · rw [rowB_t h]
      exact with_sorted (rowB_sorted b l i)
    · rw [rowB_f h]
      exact rowB_sorted b l i
theorem nd0_rng : RngK nd0.k0 ∧ RngK nd0.k1 := by
  refine ⟨⟨?_, ?_⟩, ⟨?_, ?_⟩⟩ <;> decide
theorem rng_small {c : Int} (h : 0 ≤ c) (h2 : c ≤ 1000000) : RngK c := ⟨h, by omega⟩
theorem rng0 : RngK 0 := ⟨Int.le_refl 0, by decide⟩
theorem layNd_rng {p : Nat} {l : Sl Item} {i : Nat} (h : p + l.n ≤ 512) : RngK (layNd p l i).k0 ∧ RngK (layNd p l i).k1 := by
  unfold layNd
  cases hb : Nat.beq i 0 with
  | true =>
    refine ⟨?_, rng0⟩
    cases h1 : Nat.blt 1 l.n with
    | true => exact rng_small (by show (0 : Int) ≤ (p : Int) + 2; omega) (by show (p : Int) + 2 ≤ 1000000; omega)
    | false => exact rng0
  | false =>
    refine ⟨rng0, ?_⟩
    cases h1 : Nat.blt (i + 1) l.n with
    | true =>
      have h1 : i + 1 < l.n := Nat.le_of_ble_eq_true h1
      exact rng_small (by show (0 : Int) ≤ (p : Int) + i + 2; omega) (by show (p : Int) + i + 2 ≤ 1000000; omega)
    | false => exact rng0
section
variable {X : Sl Item}
theorem nodesL_get (q : Nat) : (arL X).nodes.at_ q = bif Nat.blt q X.n then layNd 0 X q else nd0 := by
  show (bif Nat.ble 0 q && Nat.blt q (0 + X.n) then layNd 0 X (q - 0) else nd0) = _
  rw [Nat.zero_add, Nat.ble_eq_true_of_le (Nat.zero_le q), Bool.true_and]
  rfl
theorem arL_laid (hX : X.n ≤ 20) : Laid (arL X) 0 X := ⟨by show 0 + X.n ≤ 300; omega, by show 300 ≤ 512; omega, fun i hi => by rw [Nat.zero_add, nodesL_get, blt_t hi]; rfl⟩
theorem arL_rng (hX : X.n ≤ 20) : RngA (arL X) := fun q _ => by
  rw [nodesL_get]
  cases Nat.blt q X.n with
  | true => exact layNd_rng (by omega)
  | false => exact nd0_rng
theorem arL_right (hX : X.n ≤ 20) : RightP (arL X) := by
  have hcase : ∀ q, (q < X.n ∧ ((arL X).nodes.at_ q).kind = 6 ∧ wellB ((arL X).nodes.at_ q) = true) ∨ (X.n ≤ q ∧ (arL X).nodes.at_ q = nd0) := fun q => by
    rcases Nat.lt_or_ge q X.n with h | h
    · refine .inl ⟨h, ?_, ?_⟩
      · rw [nodesL_get, blt_t h]
        exact (layNd_kind 0 X q).1
      · rw [nodesL_get, blt_t h]
        exact layNd_well (by omega)
    · refine .inr ⟨h, ?_⟩
      rw [nodesL_get, blt_f h]
      rfl
  refine ⟨by show 1 ≤ 300; omega, by show 300 ≤ 512; omega, by show 300 - X.n ≤ 300; omega, fun i hi => ?_, fun i j hij hj => ?_, fun q hq => ?_, fun q hq => ?_, fun q hq h0 => ?_⟩
  · have hi : i < 300 - X.n := hi
    show 0 ≤ 299 - (i : Int) ∧ 299 - (i : Int) < ((300 : Nat) : Int)
    omega
  · show (299 - (i : Int)) ≠ 299 - (j : Int)
    omega
  · rcases hcase q with ⟨_, _, h⟩ | ⟨_, h⟩
    · exact h
    · rw [h]
      exact nd0_well
  · have hq : q < 300 := hq
    show ((arL X).nodes.at_ q).kind = 0 ↔ ∃ i, i < 300 - X.n ∧ 299 - (i : Int) = q
    rcases hcase q with ⟨h1, h2, _⟩ | ⟨h1, h2⟩
    · rw [h2]
      constructor
      · intro h
        cases h
      · rintro ⟨i, hi, he⟩
        omega
    · rw [h2]
      refine ⟨fun _ => ⟨299 - q, by omega, by omega⟩, fun _ => rfl⟩
  · rcases hcase q with ⟨h1, h2, _⟩ | ⟨h1, h2⟩
    · rw [h2] at h0
      cases h0
    · rw [h2]
      rfl
theorem arL_heap (hX : X.n ≤ 20) (hs : Sorted X) : HeapAt (arL X) (layRf 0 X) (rowF 0 X) := Laid.heap (arL_laid hX) (sorted_toL hs)
end
/-- What is made of an item stays within the numbers. -/
theorem insA_ok2 {a : Ar} (h : RightP a) (hg : RngA a) (hf : 3 ≤ a.free.n) {r : Int} {F : Fo} (hr : HeapAt a r F) (hs : F.size < 200) (x : Item) : ∃ b t H, insA a r x = (b, t, 0) ∧ RightP b ∧ Keeps a b ∧ HeapAt b t H ∧ H.items.Perm (F.items ++ [x]) ∧ b.nodes.n = a.nodes.n ∧ a.free.n ≤ b.free.n + 3 ∧ b.free.n ≤ a.free.n ∧ RngA b := by
  obtain ⟨b1, t1, e1, h1, k1, i1, f1, n1⟩ := make_one h (by omega) x
  have hg1 : RngA b1 := by
    have e := hpMake_ok h (by omega) (n := itNd x) (c := 0) (x := 0) (s := 1) rfl rfl
    rw [e1] at e
    have : b1 = mkAr a (hpN (itNd x) 0 0 1) := congrArg (fun q : Pile × Int => q.1.a) e
    rw [this]
    exact hg.make (rng0) (rng0)
  have hdis : (F.places ++ (Fo.node (lastF a) x .nil .nil).places).Nodup := List.nodup_append.2 ⟨hr.nd, i1.nd, fun u hu v hv e => by
    have hv : v = lastF a := by simpa [Fo.places] using hv
    have := (hr.rep.kind F r u hu).2
    rw [e, hv] at this
    exact this (h.last (by omega)).2.2⟩
  obtain ⟨b, t, H, e2, hM, _⟩ := meld_heap h1 (fun _ _ => by omega) (hr.keeps k1) i1 hdis (by
    show F.size + (0 + 1 + 0) ≤ 1000
    omega)
  refine ⟨b, t, H, ?_, hM.right, k1.trans hM.keeps, hM.heap, hM.items, hM.n.trans n1, by have := hM.free; omega, by have := hM.free; omega, hM.rng hg1⟩
  have hok : hpOk a r = true := by
    unfold hpOk
    rw [rightB_iff.2 h, hpNo_ok hr (by omega)]
    rfl
  have hsz : decide ((getN a r).s ≥ 200) = false := decide_eq_false (by
    rcases hr.one with rfl | ⟨p, y, k, rfl, _⟩
    · have h0 : r = 0 := hr.rep
      rw [h0, getN_zero]
      decide
    · have hN := hr.rep.1.get.2.trans hr.rep.2.1
      rw [hN]
      have hs : k.size + 1 + 0 < 200 := hs
      show ¬ ((k.size : Int) + 1) ≥ 200
      omega)
  unfold insA insF
  rw [hok]
  show callEnd (bif decide ((getN a r).s ≥ 200) then _ else _) = _
  rw [hsz, e1]
  show callEnd ((hpMeld ⟨b1, 0⟩ r t1).1, (hpMeld ⟨b1, 0⟩ r t1).2, 0) = _
  rw [e2]
  rfl
theorem heapy_all {least : Item} : ∀ {F : Fo}, Heapy least F → ∀ y ∈ F.items, leI least y
  | .nil, _, y, hy => by simp [Fo.items] at hy
  | .node p x k n, h, y, hy => by
    obtain ⟨h1, h2, h3⟩ := h
    simp only [Fo.items, List.mem_cons, List.mem_append] at hy
    rcases hy with rfl | hy | hy
    · exact h1
    · exact leI_trans h1 (heapy_all h2 y hy)
    · exact heapy_all h3 y hy
/-- A row in order, of the same items as a heap: the heap's first is its first. -/
theorem sorted_head {L : List Item} {x : Item} {m : List Item} (hp : L.Perm (x :: m)) (hs : L.Pairwise leI) (hx : ∀ y ∈ m, leI x y) : ∃ L', L = x :: L' ∧ L'.Perm m ∧ L'.Pairwise leI := by
  cases L with
  | nil => exact absurd hp.length_eq (by simp)
  | cons z L' =>
    rw [List.pairwise_cons] at hs
    have h1 : leI x z := by
      have : z ∈ x :: m := hp.subset (by simp)
      rcases List.mem_cons.1 this with e | e
      · rw [e]
        exact leI_refl x
      · exact hx z e
    have h2 : leI z x := by
      have : x ∈ z :: L' := hp.symm.subset (by simp)
      rcases List.mem_cons.1 this with e | e
      · rw [e]
        exact leI_refl z
      · exact hs.1 x e
    obtain rfl := leI_anti h1 h2
    exact ⟨L', rfl, List.Perm.cons_inv hp, hs.2⟩
theorem toL_tail {s : Sl Item} (h : 0 < s.n) : toL s = s.at_ 0 :: toL (tailI s) := by
  refine List.ext_getElem? fun i => ?_
  have hn : (tailI s).n = s.n - 1 := by
    show ((s.n : Int) - 1).toNat = _
    omega
  cases i with
  | zero => rw [toL_get s h]; rfl
  | succ i =>
    rcases Nat.lt_or_ge (i + 1) s.n with hi | hi
    · rw [toL_get s hi, List.getElem?_cons_succ, toL_get (tailI s) (by omega)]
      show some (s.at_ (i + 1)) = some (s.at_ (1 + i))
      rw [Nat.add_comm]
    · rw [List.getElem?_eq_none (by rw [toL_len]; omega), List.getElem?_eq_none (by rw [List.length_cons, toL_len]; omega)]
/-- The items of a row with one more. -/
theorem with_perm (X : Sl Item) (x : Item) : (toL (withI X x)).Perm (toL X ++ [x]) := by
  have hc := (cutW_facts X x).1
  have e : toL (withI X x) = (toL X).take (cutW X x) ++ x :: (toL X).drop (cutW X x) := by
    refine List.ext_getElem? fun i => ?_
    have hl : ((toL X).take (cutW X x)).length = cutW X x := by rw [List.length_take, toL_len]; omega
    rcases Nat.lt_or_ge i (X.n + 1) with hi | hi
    · rw [toL_get (withI X x) hi]
      show some (bif Nat.blt i (cutW X x) then X.at_ i else bif Nat.beq i (cutW X x) then x else X.at_ (i - 1)) = _
      rcases Nat.lt_trichotomy i (cutW X x) with h | h | h
      · rw [blt_t h, List.getElem?_append_left (by rw [hl]; exact h), List.getElem?_take, if_pos h, toL_get X (by omega)]
        rfl
      · rw [blt_f (by omega : cutW X x ≤ i), List.getElem?_append_right (by rw [hl]; omega), hl, h, Nat.sub_self, Nat.beq_refl]
        rfl
      · rw [blt_f (by omega : cutW X x ≤ i), beq_f (by omega : i ≠ cutW X x), List.getElem?_append_right (by rw [hl]; omega), hl, show i - cutW X x = (i - 1 - cutW X x) + 1 by omega, List.getElem?_cons_succ, List.getElem?_drop, show cutW X x + (i - 1 - cutW X x) = i - 1 by omega, toL_get X (by omega)]
        rfl
    · rw [List.getElem?_eq_none (by rw [toL_len]; exact hi), List.getElem?_eq_none (by rw [List.length_append, hl, List.length_cons, List.length_drop, toL_len]; omega)]
  rw [e]
  refine List.perm_middle.trans ?_
  rw [List.take_append_drop]
  exact (List.perm_append_comm (l₁ := [x]) (l₂ := toL X))
theorem sibs_items (p : Nat) (l : Sl Item) : ∀ c i, (sibs p l c i).items = (List.range' i c).map l.at_
  | 0, _ => rfl
  | c + 1, i => by
    show l.at_ i :: ([] ++ (sibs p l c (i + 1)).items) = _
    rw [sibs_items p l c (i + 1), List.nil_append, List.range'_succ]
    rfl
theorem row_items_toL (X : Sl Item) : (rowF 0 X).items = toL X := by
  unfold rowF toL
  split
  · rename_i h
    rw [h]
    rfl
  · rename_i n h
    show X.at_ 0 :: ((sibs 0 X n 1).items ++ []) = _
    rw [List.append_nil, sibs_items, h, List.range_eq_range', List.range'_succ]
    rfl
end Go.Proofs.Ytadgjhbhghhbgaa.Abs
