/-
  STRINGS AS LISTS OF BYTES, PLAINLY: parts, sums, the first place of a byte, what lies between separators. No program in sight.
-/
import Derived.Lib.Bytealg
namespace Go.Proofs.YtmpddomgiplnmaaDoor.Abs
open Go Go.Lib

abbrev toL (b : ByteArray) : List UInt8 := b.data.toList
theorem toL_inj {a b : ByteArray} (h : toL a = toL b) : a = b := ByteArray.ext (Array.toList_inj.1 h)
theorem toL_len (s : ByteArray) : (toL s).length = s.size := Array.length_toList
theorem toL_append (a b : ByteArray) : toL (a ++ b) = toL a ++ toL b := by
  show (a ++ b).data.toList = _
  rw [ByteArray.data_append, Array.toList_append]
theorem toL_extract (s : ByteArray) (a b : Nat) : toL (s.extract a b) = ((toL s).take b).drop a := by
  show (s.extract a b).data.toList = _
  rw [ByteArray.data_extract, Array.toList_extract, List.extract_eq_take_drop, List.drop_take]
theorem toL_behind (s : ByteArray) (a : Nat) : toL (s.extract a s.size) = (toL s).drop a := by
  rw [toL_extract, List.take_of_length_le (by rw [toL_len]; omega)]

theorem ib_ge (l : List UInt8) (c : UInt8) : -1 ≤ indexByte l c := indexByte_ge l c
theorem ib_hit (c : UInt8) : ∀ (l : List UInt8) (i : Nat), indexByte l c = i → l = l.take i ++ c :: l.drop (i + 1) ∧ c ∉ l.take i ∧ i < l.length
  | [], i, h => by simp [indexByte] at h
  | b :: l, i, h => by
    unfold indexByte at h
    by_cases hb : b == c
    · rw [if_pos hb] at h
      obtain rfl : i = 0 := by omega
      obtain rfl := eq_of_beq hb
      simp
    · rw [if_neg hb] at h
      by_cases h1 : indexByte l c == -1
      · rw [if_pos h1] at h; omega
      · rw [if_neg h1] at h
        have hge := indexByte_ge l c
        have h1 : indexByte l c ≠ -1 := by simpa using h1
        obtain ⟨j, rfl⟩ : ∃ j, i = j + 1 := ⟨i - 1, by omega⟩
        obtain ⟨g1, g2, g3⟩ := ib_hit c l j (by omega)
        refine ⟨?_, ?_, by rw [List.length_cons]; omega⟩
        · rw [List.take_succ_cons, List.drop_succ_cons, List.cons_append, ← g1]
        · rw [List.take_succ_cons, List.mem_cons, not_or]
          exact ⟨fun e => hb (by simp [e]), g2⟩
theorem ib_miss (c : UInt8) : ∀ (l : List UInt8), indexByte l c < 0 ↔ c ∉ l
  | [] => by simp [indexByte]
  | b :: l => by
    have ih := ib_miss c l
    have hge := indexByte_ge l c
    unfold indexByte
    by_cases hb : b == c
    · rw [if_pos hb]
      obtain rfl := eq_of_beq hb
      simp
    · rw [if_neg hb, List.mem_cons, not_or]
      have hb : ¬ c = b := fun e => hb (by simp [e])
      by_cases h1 : indexByte l c == -1
      · rw [if_pos h1]
        have h1 : indexByte l c = -1 := by simpa using h1
        exact ⟨fun _ => ⟨hb, ih.1 (by omega)⟩, fun _ => by omega⟩
      · rw [if_neg h1]
        have h1 : indexByte l c ≠ -1 := by simpa using h1
        exact ⟨fun h => by omega, fun h => by have := ih.2 h.2; omega⟩

/-- The parts of a list between separators. -/
def splitL (c : UInt8) : List UInt8 → List (List UInt8)
  | [] => [[]]
  | b :: l => if b = c then [] :: splitL c l else match splitL c l with
    | [] => [[b]]
    | x :: r => (b :: x) :: r
theorem splitL_ne (c : UInt8) : ∀ l, splitL c l ≠ []
  | [] => by simp [splitL]
  | b :: l => by
    unfold splitL
    split
    · simp
    · split <;> simp
theorem splitL_hit (c : UInt8) : ∀ (a b : List UInt8), c ∉ a → splitL c (a ++ c :: b) = a :: splitL c b
  | [], b, _ => by simp [splitL]
  | x :: a, b, h => by
    rw [List.mem_cons, not_or] at h
    rw [List.cons_append, splitL, if_neg (fun e => h.1 e.symm), splitL_hit c a b h.2]
theorem splitL_miss (c : UInt8) : ∀ (a : List UInt8), c ∉ a → splitL c a = [a]
  | [], _ => rfl
  | x :: a, h => by
    rw [List.mem_cons, not_or] at h
    rw [splitL, if_neg (fun e => h.1 e.symm), splitL_miss c a h.2]
theorem splitL_len (c : UInt8) : ∀ l : List UInt8, (splitL c l).length = l.count c + 1
  | [] => rfl
  | b :: l => by
    have ih := splitL_len c l
    unfold splitL
    rw [List.count_cons]
    split
    · rename_i h
      subst h
      rw [List.length_cons, ih]
      simp
    · rename_i h
      have e : (b == c) = false := by simpa using h
      rw [e]
      split
      · rename_i h2
        exact absurd h2 (splitL_ne c l)
      · rename_i x r h2
        rw [h2] at ih
        simp only [List.length_cons] at ih ⊢
        simpa using ih
end Go.Proofs.YtmpddomgiplnmaaDoor.Abs
