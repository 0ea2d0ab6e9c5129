/-
  PLAIN LAW: HeapMelds is true.
-/
import Derived.Test.YtadgjhbhghhbgaaHq7
namespace Go.Proofs.Ytadgjhbhghhbgaa.Abs
open Go

def Sorted (s : Sl Item) : Prop := ∀ i j, i < j → j < s.n → leI (s.at_ i) (s.at_ j)
theorem sorted_toL {s : Sl Item} (h : Sorted s) : (toL s).Pairwise leI := by
  rw [List.pairwise_iff_getElem]
  intro i j hi hj hij
  rw [toL_len] at hi hj
  have g1 : (toL s)[i]'(by rw [toL_len]; exact hi) = s.at_ i := Option.some.inj ((List.getElem?_eq_getElem _).symm.trans (toL_get s hi))
  have g2 : (toL s)[j]'(by rw [toL_len]; exact hj) = s.at_ j := Option.some.inj ((List.getElem?_eq_getElem _).symm.trans (toL_get s hj))
  rw [g1, g2]
  exact h i j hij hj
theorem cutW_facts (s : Sl Item) (x : Item) : cutW s x ≤ s.n ∧ (∀ k, k < cutW s x → lessI (s.at_ k) x = true) ∧ (cutW s x < s.n → lessI (s.at_ (cutW s x)) x = false) := by
  rcases idx_cases (fun i => !lessI (s.at_ i) x) s.n with ⟨h1, h2⟩ | ⟨i, h1, h2, h3, h4⟩
  · have hb : ∀ k, k < s.n → lessI (s.at_ k) x = true := fun k hk => by simpa using h2 k hk
    have e : cutW s x = s.n := cutW_eq (Nat.le_refl _) hb fun h => absurd h (Nat.lt_irrefl _)
    rw [e]
    exact ⟨Nat.le_refl _, hb, fun h => absurd h (Nat.lt_irrefl _)⟩
  · have hb : ∀ k, k < i → lessI (s.at_ k) x = true := fun k hk => by simpa using h4 k hk
    have hg : lessI (s.at_ i) x = false := by simpa using h3
    have e : cutW s x = i := cutW_eq (by omega) hb fun _ => hg
    rw [e]
    exact ⟨by omega, hb, fun _ => hg⟩
theorem with_sorted {s : Sl Item} {x : Item} (h : Sorted s) : Sorted (withI s x) := by
  obtain ⟨h1, h2, h3⟩ := cutW_facts s x
  intro i j hij hj
  have hj : j < s.n + 1 := hj
  show leI (bif Nat.blt i (cutW s x) then s.at_ i else bif Nat.beq i (cutW s x) then x else s.at_ (i - 1)) (bif Nat.blt j (cutW s x) then s.at_ j else bif Nat.beq j (cutW s x) then x else s.at_ (j - 1))
  generalize hc : cutW s x = c at *
  have hx : ∀ k, c ≤ k → k < s.n → leI x (s.at_ k) := fun k hk1 hk2 => by
    have hxc : leI x (s.at_ c) := h3 (by omega)
    rcases Nat.lt_or_ge c k with hl | hl
    · exact leI_trans hxc (h c k hl hk2)
    · obtain rfl : k = c := by omega
      exact hxc
  rcases Nat.lt_trichotomy i c with hi | hi | hi
  · rw [blt_t hi]
    rcases Nat.lt_trichotomy j c with hjc | hjc | hjc
    · rw [blt_t hjc]
      exact h i j hij (by omega)
    · subst hjc
      rw [blt_f (Nat.le_refl _), Nat.beq_refl]
      exact less_asymm (h2 i hi)
    · rw [blt_f (by omega : c ≤ j), beq_f (by omega : j ≠ c)]
      exact h i (j - 1) (by omega) (by omega)
  · subst hi
    rw [blt_f (Nat.le_refl _), Nat.beq_refl, blt_f (by omega : i ≤ j), beq_f (by omega : j ≠ i)]
    exact hx (j - 1) (by omega) (by omega)
  · rw [blt_f (by omega : c ≤ i), beq_f (by omega : i ≠ c), blt_f (by omega : c ≤ j), beq_f (by omega : j ≠ c)]
    exact h (i - 1) (j - 1) (by omega) (by omega)
theorem rowW_sorted (l : Sl Item) : ∀ i, Sorted (rowW l i)
  | 0 => fun i j _ hj => absurd hj (Nat.not_lt_zero j)
  | i + 1 => by
    rcases Nat.lt_or_ge i 20 with h | h
    · rw [rowW_t h]
      exact with_sorted (rowW_sorted l i)
    · rw [rowW_f h]
      exact rowW_sorted l i

section
variable {X Y : Sl Item}
theorem nodesM_get (q : Nat) : (nodesM X Y).at_ q = bif Nat.ble X.n q && Nat.blt q (X.n + Y.n) then layNd X.n Y (q - X.n) else bif Nat.blt q X.n then layNd 0 X q else nd0 := by
  show (bif Nat.ble X.n q && Nat.blt q (X.n + Y.n) then layNd X.n Y (q - X.n) else bif Nat.ble 0 q && Nat.blt q (0 + X.n) then layNd 0 X (q - 0) else nd0) = _
  rw [Nat.zero_add, Nat.ble_eq_true_of_le (Nat.zero_le q), Bool.true_and]
  rfl
theorem nodesM_x {q : Nat} (h : q < X.n) : (nodesM X Y).at_ q = layNd 0 X q := by
  rw [nodesM_get, blt_t h]
  have : Nat.ble X.n q = false := by
    cases hb : Nat.ble X.n q with
    | false => rfl
    | true => have := Nat.le_of_ble_eq_true hb; omega
  rw [this]
  rfl
theorem nodesM_y {i : Nat} (h : i < Y.n) : (nodesM X Y).at_ (X.n + i) = layNd X.n Y i := by
  rw [nodesM_get, Nat.ble_eq_true_of_le (Nat.le_add_right _ _), blt_t (by omega : X.n + i < X.n + Y.n), Nat.add_sub_cancel_left]
  rfl
theorem nodesM_o {q : Nat} (h : X.n + Y.n ≤ q) : (nodesM X Y).at_ q = nd0 := by
  rw [nodesM_get, blt_f h, blt_f (by omega : X.n ≤ q), Bool.and_false]
  rfl
theorem nd0_well : wellB nd0 = true := by decide
theorem arM_right (hX : X.n ≤ 20) (hY : Y.n ≤ 20) : RightP (arM X Y) := by
  have hcase : ∀ q, q < 512 → (q < X.n + Y.n ∧ ((nodesM X Y).at_ q).kind = 6 ∧ wellB ((nodesM X Y).at_ q) = true) ∨ (X.n + Y.n ≤ q ∧ (nodesM X Y).at_ q = nd0) := fun q hq => by
    rcases Nat.lt_or_ge q X.n with h | h
    · refine .inl ⟨by omega, ?_, ?_⟩
      · rw [nodesM_x h]
        exact (layNd_kind 0 X q).1
      · rw [nodesM_x h]
        exact layNd_well (by omega)
    · rcases Nat.lt_or_ge q (X.n + Y.n) with h2 | h2
      · obtain ⟨i, rfl⟩ : ∃ i, q = X.n + i := ⟨q - X.n, by omega⟩
        refine .inl ⟨h2, ?_, ?_⟩
        · rw [nodesM_y (by omega)]
          exact (layNd_kind X.n Y i).1
        · rw [nodesM_y (by omega)]
          exact layNd_well (by omega)
      · exact .inr ⟨h2, nodesM_o h2⟩
  refine ⟨by show 1 ≤ 512; omega, by show 512 ≤ 512; omega, by show 512 - (X.n + Y.n) ≤ 512; omega, fun i hi => ?_, fun i j hij hj => ?_, fun q hq => ?_, fun q hq => ?_, fun q hq h0 => ?_⟩
  · have hi : i < 512 - (X.n + Y.n) := hi
    show 0 ≤ 511 - (i : Int) ∧ 511 - (i : Int) < ((512 : Nat) : Int)
    omega
  · show (511 - (i : Int)) ≠ 511 - (j : Int)
    omega
  · have hq : q < 512 := hq
    rcases hcase q hq with ⟨_, _, h⟩ | ⟨_, h⟩
    · exact h
    · show wellB ((nodesM X Y).at_ q) = true
      rw [h]
      exact nd0_well
  · have hq : q < 512 := hq
    show ((nodesM X Y).at_ q).kind = 0 ↔ ∃ i, i < 512 - (X.n + Y.n) ∧ 511 - (i : Int) = q
    rcases hcase q hq with ⟨h1, h2, _⟩ | ⟨h1, h2⟩
    · rw [h2]
      constructor
      · intro h
        cases h
      · rintro ⟨i, hi, he⟩
        omega
    · rw [h2]
      refine ⟨fun _ => ⟨511 - q, by omega, by omega⟩, fun _ => rfl⟩
  · have hq : q < 512 := hq
    show bare ((nodesM X Y).at_ q) ((nodesM X Y).at_ q).gen = true
    rcases hcase q hq with ⟨h1, h2, _⟩ | ⟨h1, h2⟩
    · have h0 : ((nodesM X Y).at_ q).kind = 0 := h0
      rw [h2] at h0
      cases h0
    · rw [h2]
      rfl
theorem same_ok {s t : Sl Item} (h : toL s = toL t) : sameI s t = true := by
  have hn : s.n = t.n := by rw [← toL_len, h, toL_len]
  unfold sameI
  rw [hn]
  have e : ((t.n : Int) != (t.n : Int)) = false := by simp
  rw [e]
  have e2 : anyB (fun i => !itEq (s.at_ i) (t.at_ i)) t.n = false := anyB_false.2 fun i hi => by
    have h1 := toL_get s (hn ▸ hi)
    have h2 := toL_get t hi
    rw [h] at h1
    rw [h1] at h2
    have : itEq (s.at_ i) (t.at_ i) = true := itEq_iff.2 (Option.some.inj h2)
    rw [this]
    rfl
  rw [e2]
  rfl
theorem melds_ok (hA : aliveB = true) (hX : X.n ≤ 20) (hY : Y.n ≤ 20) (sX : Sorted X) (sY : Sorted Y) : meldsR X Y = true := by
  have hR := arM_right hX hY
  have h1 : HeapAt (arM X Y) (layRf 0 X) (rowF 0 X) := Laid.heap ⟨by show 0 + X.n ≤ 512; omega, by show 512 ≤ 512; omega, fun i hi => by rw [Nat.zero_add]; exact nodesM_x hi⟩ (sorted_toL sX)
  have h2 : HeapAt (arM X Y) (layRf X.n Y) (rowF X.n Y) := Laid.heap ⟨by show X.n + Y.n ≤ 512; omega, by show 512 ≤ 512; omega, fun i hi => nodesM_y hi⟩ (sorted_toL sY)
  have hdis : ((rowF 0 X).places ++ (rowF X.n Y).places).Nodup := List.nodup_append.2 ⟨h1.nd, h2.nd, fun u hu v hv e => by
    have := rowF_places 0 X u hu
    have := rowF_places X.n Y v hv
    omega⟩
  have hdis2 : ((rowF X.n Y).places ++ (rowF 0 X).places).Nodup := List.nodup_append.2 ⟨h2.nd, h1.nd, fun u hu v hv e => by
    have := rowF_places 0 X v hv
    have := rowF_places X.n Y u hu
    omega⟩
  have hf : 2 ≤ (arM X Y).free.n := by
    show 2 ≤ 512 - (X.n + Y.n)
    omega
  obtain ⟨b, t, e1, m1⟩ := meldA_ok hR hf h1 h2 hdis (by rw [rowF_size, rowF_size]; omega)
  obtain ⟨c, u, e2, m2⟩ := meldA_ok hR hf h2 h1 hdis2 (by rw [rowF_size, rowF_size]; omega)
  obtain ⟨H, hH, pH⟩ := m1.heap
  obtain ⟨K, hK, pK⟩ := m2.heap
  have sH : H.size = X.n + Y.n := by
    rw [← H.items_len, pH.length_eq, List.length_append, Fo.items_len, Fo.items_len, rowF_size, rowF_size]
  have sK : K.size = X.n + Y.n := by
    rw [← K.items_len, pK.length_eq, List.length_append, Fo.items_len, Fo.items_len, rowF_size, rowF_size]
    omega
  obtain ⟨i1, i2, i3, i4⟩ := items_ok m1.right hH (by omega)
  obtain ⟨j1, j2, j3, j4⟩ := items_ok m2.right hK (by omega)
  have hs : sameI (itemsL b t) (itemsL c u) = true := same_ok (sorted_eq (i2.trans (pH.trans ((List.perm_append_comm).trans (pK.symm.trans j2.symm)))) i3 j3)
  unfold meldsR mlChain
  rw [e1, e2]
  simp only [hA, hs, i1, j1, i4, sH]
  rw [i64_small (by omega) (by omega)]
  simp
end
end Go.Proofs.Ytadgjhbhghhbgaa.Abs
