/-
  PLAIN LAW: rows laid as heaps.
-/
import Derived.Test.YtadgjhbhghhbgaaHq6
namespace Go.Proofs.Ytadgjhbhghhbgaa.Abs
open Go

theorem layNd_mk (p : Nat) (l : Sl Item) (i : Nat) : ∃ c d : Int, layNd p l i = ndOf 0 (l.at_ i) (bif Nat.beq i 0 then l.n else 1) c d ∧ (c = 0 ∨ (i = 0 ∧ 1 < l.n ∧ c = refI (p + 1) 0)) ∧ (d = 0 ∨ (i ≠ 0 ∧ i + 1 < l.n ∧ d = refI (p + i + 1) 0)) ∧ (i = 0 → 1 < l.n → c = refI (p + 1) 0) ∧ (i ≠ 0 → i + 1 < l.n → d = refI (p + i + 1) 0) ∧ (i ≠ 0 → c = 0) ∧ (i = 0 → d = 0) ∧ (l.n ≤ i + 1 → c = 0 ∧ d = 0) := by
  by_cases h0 : i = 0
  · subst h0
    rcases Nat.lt_or_ge 1 l.n with h | h
    · refine ⟨(p : Int) + 2, 0, by rw [layNd_0a h]; rfl, .inr ⟨rfl, h, ?_⟩, .inl rfl, fun _ _ => ?_, fun h => absurd rfl h, fun h => absurd rfl h, fun _ => rfl, fun h2 => by omega⟩ <;> (unfold refI; omega)
    · exact ⟨0, 0, by rw [layNd_0b h]; rfl, .inl rfl, .inl rfl, fun _ h2 => by omega, fun h => absurd rfl h, fun _ => rfl, fun _ => rfl, fun _ => ⟨rfl, rfl⟩⟩
  · rcases Nat.lt_or_ge (i + 1) l.n with h | h
    · refine ⟨0, (p : Int) + i + 2, by rw [layNd_sa h0 h, beq_f h0]; rfl, .inl rfl, .inr ⟨h0, h, ?_⟩, fun h2 => absurd h2 h0, fun _ _ => ?_, fun _ => rfl, fun h2 => absurd h2 h0, fun h2 => by omega⟩ <;> (unfold refI; omega)
    · exact ⟨0, 0, by rw [layNd_sb h0 h, beq_f h0]; rfl, .inl rfl, .inl rfl, fun h2 => absurd h2 h0, fun _ h2 => by omega, fun _ => rfl, fun _ => rfl, fun _ => ⟨rfl, rfl⟩⟩
theorem layNd_well {p : Nat} {l : Sl Item} {i : Nat} (hp : p + l.n ≤ 512) : wellB (layNd p l i) = true := by
  obtain ⟨c, d, e, hc, hd, _⟩ := layNd_mk p l i
  rw [e]
  have h1 : refOk c = true := by
    rcases hc with rfl | ⟨_, _, rfl⟩
    · rfl
    · exact (refI_ok (by omega) (Int.le_refl 0) (by omega)).1
  have h2 : refOk d = true := by
    rcases hd with rfl | ⟨_, _, rfl⟩
    · rfl
    · exact (refI_ok (by omega) (Int.le_refl 0) (by omega)).1
  refine well_mk ⟨by show (0 : Int) ≤ 0; decide, by show (0 : Int) ≤ 1048576; decide⟩ ⟨by show (0 : Int) ≤ 0; decide, by show (0 : Int) ≤ 9; decide⟩ ⟨by show (0 : Int) ≤ 0; decide, by show (0 : Int) ≤ 9; decide⟩ fun j hj => ?_
  match j, hj with
  | 0, _ => exact h1
  | 1, _ => exact h2
  | 2, _ => rfl
  | 3, _ => rfl
  | 4, _ => rfl
  | 5, _ => rfl
  | 6, _ => rfl
  | 7, _ => rfl
  | 8, _ => rfl
  | j + 9, hj => exact absurd hj (by omega)
theorem layNd_kind (p : Nat) (l : Sl Item) (i : Nat) : (layNd p l i).kind = 6 ∧ (layNd p l i).gen = 0 := by
  obtain ⟨c, d, e, _⟩ := layNd_mk p l i
  rw [e]
  exact ⟨rfl, rfl⟩
/-- The nodes next to each other below a row's first. -/
def sibs (p : Nat) (l : Sl Item) : Nat → Nat → Fo
  | 0, _ => .nil
  | c + 1, i => .node (p + i) (l.at_ i) .nil (sibs p l c (i + 1))
def rowF (p : Nat) (l : Sl Item) : Fo := match l.n with
  | 0 => .nil
  | n + 1 => .node p (l.at_ 0) (sibs p l n 1) .nil
theorem sibs_size (p : Nat) (l : Sl Item) : ∀ c i, (sibs p l c i).size = c
  | 0, _ => rfl
  | c + 1, i => by
    show 0 + 1 + (sibs p l c (i + 1)).size = c + 1
    rw [sibs_size p l c (i + 1)]
    omega
theorem sibs_places (p : Nat) (l : Sl Item) : ∀ c i, (∀ z ∈ (sibs p l c i).places, p + i ≤ z ∧ z < p + i + c) ∧ (sibs p l c i).places.Nodup
  | 0, i => ⟨fun z hz => by simp [sibs, Fo.places] at hz, by simp [sibs, Fo.places]⟩
  | c + 1, i => by
    obtain ⟨h1, h2⟩ := sibs_places p l c (i + 1)
    refine ⟨fun z hz => ?_, ?_⟩
    · simp only [sibs, Fo.places, List.nil_append, List.mem_cons] at hz
      rcases hz with rfl | hz
      · omega
      · have := h1 z hz
        omega
    · simp only [sibs, Fo.places, List.nil_append]
      exact List.nodup_cons.2 ⟨fun hm => by have := h1 _ hm; omega, h2⟩
theorem sibs_heapy {p : Nat} {l : Sl Item} {x : Item} : ∀ c i, (∀ j, i ≤ j → j < i + c → lessI (l.at_ j) x = false) → Heapy x (sibs p l c i)
  | 0, _, _ => trivial
  | c + 1, i, h => ⟨h i (Nat.le_refl i) (by omega), trivial, sibs_heapy c (i + 1) fun j h1 h2 => h j (by omega) (by omega)⟩
section
variable {a : Ar} {p : Nat} {l : Sl Item}
/-- A row stands in an arena, from a place on. -/
structure Laid (a : Ar) (p : Nat) (l : Sl Item) : Prop where
  lt : p + l.n ≤ a.nodes.n
  max : a.nodes.n ≤ 512
  at_ : ∀ i, i < l.n → a.nodes.at_ (p + i) = layNd p l i
theorem Laid.isAt (h : Laid a p l) {i : Nat} (hi : i < l.n) : IsAt a (refI (p + i) 0) (p + i) := by
  have h1 := h.lt
  have h2 := h.max
  obtain ⟨q1, q2, q3⟩ := refI_ok (p := p + i) (g := 0) (by omega) (Int.le_refl 0) (by omega)
  obtain ⟨k1, k2⟩ := layNd_kind p l i
  refine ⟨by omega, q2, ?_, ?_⟩
  · rw [h.at_ i hi, k2]
    exact q3
  · rw [h.at_ i hi, k1]
    decide
theorem Laid.chain (h : Laid a p l) : ∀ c i, i ≠ 0 → i + c = l.n → Rep a (bif Nat.beq c 0 then 0 else refI (p + i) 0) (sibs p l c i)
  | 0, _, _, _ => rfl
  | c + 1, i, h0, hc => by
    obtain ⟨c0, d0, e, _, _, _, h5, h6, _, h8⟩ := layNd_mk p l i
    have hi : i < l.n := by omega
    have hn := h.at_ i hi
    rw [e, beq_f h0] at hn
    refine ⟨h.isAt hi, ?_, ?_, ?_⟩
    · rw [hn]
      rfl
    · rw [hn]
      exact h6 h0
    · rw [hn]
      have hr := Laid.chain h c (i + 1) (by omega) (by omega)
      have hd : (ndOf 0 (l.at_ i) (bif false then (l.n : Int) else 1) c0 d0).k1 = bif Nat.beq c 0 then 0 else refI (p + (i + 1)) 0 := by
        show d0 = _
        rcases Nat.eq_zero_or_pos c with rfl | hc0
        · exact (h8 (by omega)).2
        · rw [beq_f (by omega : c ≠ 0)]
          exact h5 h0 (by omega)
      rw [hd]
      exact hr
theorem Laid.heap (h : Laid a p l) (hs : (toL l).Pairwise leI) : HeapAt a (layRf p l) (rowF p l) := by
  have h1 := h.lt
  have h2 := h.max
  unfold rowF layRf
  split
  · rename_i hn
    rw [hn]
    exact ⟨rfl, .inl rfl, by simp [Fo.places], by show (0 : Int) ≤ 0; decide, by show (0 : Int) < 18446744073709551616; decide⟩
  · rename_i n hn
    have hi : 0 < l.n := by omega
    obtain ⟨c0, d0, e, _, _, h4, _, _, h7, h8⟩ := layNd_mk p l 0
    have hn0 := h.at_ 0 hi
    rw [e] at hn0
    have hroot := h.isAt hi
    have hsort : ∀ j, 1 ≤ j → j < 1 + n → lessI (l.at_ j) (l.at_ 0) = false := fun j hj1 hj2 => by
      have := List.pairwise_iff_getElem.1 hs 0 j (by rw [toL_len]; omega) (by rw [toL_len]; omega) (by omega)
      have g0 : (toL l)[0]'(by rw [toL_len]; omega) = l.at_ 0 := Option.some.inj ((List.getElem?_eq_getElem _).symm.trans (toL_get l hi))
      have gj : (toL l)[j]'(by rw [toL_len]; omega) = l.at_ j := Option.some.inj ((List.getElem?_eq_getElem _).symm.trans (toL_get l (by omega)))
      rw [g0, gj] at this
      exact this
    have hsib := Laid.chain h n 1 (by omega) (by omega)
    have hpl := sibs_places p l n 1
    have href : refI (p + 0) 0 = (p : Int) + 1 := by
      unfold refI
      omega
    rw [beq_f (by omega : l.n ≠ 0)]
    show HeapAt a ((p : Int) + 1) _
    rw [← href]
    refine ⟨⟨hroot, ?_, ?_, ?_⟩, .inr ⟨_, _, _, rfl, sibs_heapy n 1 hsort⟩, ?_, ?_⟩
    · show a.nodes.at_ (p + 0) = ndOf (a.nodes.at_ (p + 0)).gen (l.at_ 0) (((sibs p l n 1).size : Int) + 1) (a.nodes.at_ (p + 0)).k0 (a.nodes.at_ (p + 0)).k1
      rw [hn0, sibs_size]
      show ndOf 0 (l.at_ 0) (l.n : Int) c0 d0 = ndOf 0 (l.at_ 0) ((n : Int) + 1) c0 d0
      rw [show (l.n : Int) = (n : Int) + 1 by omega]
    · show Rep a (a.nodes.at_ (p + 0)).k0 _
      rw [hn0]
      have hc : (ndOf 0 (l.at_ 0) (bif Nat.beq 0 0 then (l.n : Int) else 1) c0 d0).k0 = bif Nat.beq n 0 then 0 else refI (p + 1) 0 := by
        show c0 = _
        rcases Nat.eq_zero_or_pos n with rfl | hc0
        · exact (h8 (by omega)).1
        · rw [beq_f (by omega : n ≠ 0)]
          exact h4 rfl (by omega)
      rw [hc]
      exact hsib
    · show Rep a (a.nodes.at_ (p + 0)).k1 .nil
      rw [hn0]
      exact h7 rfl
    · show (p :: ((sibs p l n 1).places ++ [])).Nodup
      rw [List.append_nil]
      exact List.nodup_cons.2 ⟨fun hm => by have := hpl.1 _ hm; omega, hpl.2⟩
    · exact refI_rng (by omega) ⟨Int.le_refl 0, by omega⟩
theorem rowF_size (p : Nat) (l : Sl Item) : (rowF p l).size = l.n := by
  unfold rowF
  split
  · rename_i h
    rw [h]
    rfl
  · rename_i n h
    show (sibs p l n 1).size + 1 + 0 = l.n
    rw [sibs_size, h]
theorem rowF_places (p : Nat) (l : Sl Item) : ∀ z ∈ (rowF p l).places, p ≤ z ∧ z < p + l.n := by
  unfold rowF
  split
  · intro z hz
    simp [Fo.places] at hz
  · rename_i n h
    intro z hz
    simp only [Fo.places, List.append_nil, List.mem_cons] at hz
    rcases hz with rfl | hz
    · omega
    · have := (sibs_places p l n 1).1 z hz
      omega
end
end Go.Proofs.Ytadgjhbhghhbgaa.Abs
